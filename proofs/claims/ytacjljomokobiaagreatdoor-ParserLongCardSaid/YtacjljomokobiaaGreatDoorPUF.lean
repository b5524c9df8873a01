/- Printed by a program of ours out of our texts: the evaluator, the printed functions, the plain laws. (A help: no statement of the seat is proved here.) -/
import Derived.Test.YtacjljomokobiaaGreatDoorPUE
section
set_option linter.unusedVariables false
set_option linter.unusedSimpArgs false
set_option maxRecDepth 100000
namespace Go.Vx
namespace Pl
open Go Go.Proofs
theorem known_f : q21.f = some true := by
 unfold q21.f q21.t
 have hG0 := new_good (usual_ok 0)
 refine go_call rfl ?_
 dsimp only
 refine go_call (new_f (usual 0)) ?_
 rw [show PS.new' (usual 0) = PS.new (usual 0) from if_pos (by decide)]
 dsimp only [PS.tupN]
 refine go_chk (by decide) ?_
 repeat rw [vokl]
 refine go_chk (by decide) ?_
 refine go_call (feed_f (C := usual 0) (S := PS.new (usual 0)) (usual_ok 0) usual_lines (by decide) (n := 0) (by decide) hG0) ?_
 dsimp only [PS.tupF]
 repeat rw [vokl]
 refine go_call (err_f _ _ _ _ _) ?_
 repeat rw [vokl]
 refine go_call (clean_f (((PS.new (usual 0)).taken.feed (usual 0) _)) _ _ _ _ _) ?_
 refine go_call (new_f (usual 0)) ?_
 rw [show PS.new' (usual 0) = PS.new (usual 0) from if_pos (by decide)]
 dsimp only [PS.tupN]
 refine go_chk (by decide) ?_
 repeat rw [vokl]
 refine go_chk (by decide) ?_
 refine go_call (feed_f (C := usual 0) (S := PS.new (usual 0)) (usual_ok 0) usual_lines (by decide) (n := 0) (by decide) hG0) ?_
 dsimp only [PS.tupF]
 repeat rw [vokl]
 refine go_call (err_f _ _ _ _ _) ?_
 repeat rw [vokl]
 refine go_call (clean_f (((PS.new (usual 0)).taken.feed (usual 0) _)) _ _ _ _ _) ?_
 refine go_call (new_f (usual 0)) ?_
 rw [show PS.new' (usual 0) = PS.new (usual 0) from if_pos (by decide)]
 dsimp only [PS.tupN]
 refine go_chk (by decide) ?_
 refine go_chk (by decide) ?_
 repeat rw [vokl]
 refine go_chk (by decide) ?_
 refine go_call (feed_f (C := usual 0) (S := PS.new (usual 0)) (usual_ok 0) usual_lines (by decide) (n := 0) (by decide) hG0) ?_
 dsimp only [PS.tupF]
 repeat rw [vokl]
 refine go_call (waits_f (((PS.new (usual 0)).taken.feed (usual 0) _)) _ _ _ _ _) ?_
 repeat rw [vokl]
 have hG1 : Good (usual 0) (0 + 4 * (List.flatten known3).length) ((PS.new (usual 0)).taken.feed (usual 0) (List.flatten known3)) := feed_good (usual_ok 0) _ 0 _ (by decide) hG0.taken
 refine go_call (held_f (C := usual 0) (S := ((PS.new (usual 0)).taken.feed (usual 0) (List.flatten known3))) (hG1.1.small (usual_ok 0) (by decide)) (by decide +kernel) _) ?_
 refine go_chk (by decide) ?_
 repeat rw [vokl]
 refine go_chk (by decide) ?_
 refine go_call (feed_f (C := usual 0) (S := ((PS.new (usual 0)).taken.feed (usual 0) (List.flatten known3))) (usual_ok 0) usual_lines (by decide) (n := 0 + 4 * (List.flatten known3).length) (by decide) hG1) ?_
 dsimp only [PS.tupF]
 repeat rw [vokl]
 decide +kernel
def decS (m : Nat) : Bs := (q64.f (m : Int)).getD []
def hexS (m : Nat) : Bs := (q67.f (m : Int)).getD []
def okNum (m : Nat) : Bool := decide (q64.f (m : Int) = some (decS m)) && decide (q67.f (m : Int) = some (hexS m)) && decide ((decS m).length ≤ 3) && decide ((hexS m).length ≤ 2) && decide (plain (decS m)) && decide (plain (hexS m)) &&
 (decide (m = 0) || decide (sizeS (hexS m) 0 65536 32 = ((m : Int), 0)))
theorem num_all : ((List.range 201).all okNum) = true := by decide +kernel
theorem num_ok {m : Nat} (h : m ≤ 200) : q64.f (m : Int) = some (decS m) ∧ q67.f (m : Int) = some (hexS m) ∧ (decS m).length ≤ 3 ∧ (hexS m).length ≤ 2 ∧ plain (decS m) ∧ plain (hexS m) ∧ (m = 0 ∨ sizeS (hexS m) 0 65536 32 = ((m : Int), 0)) := by
 have := List.all_eq_true.1 num_all m (List.mem_range.2 (by omega))
 unfold okNum at this
 simp only [Bool.and_eq_true, Bool.or_eq_true, decide_eq_true_eq] at this
 obtain ⟨⟨⟨⟨⟨⟨h1, h2⟩, h3⟩, h4⟩, h5⟩, h6⟩, h7⟩ := this
 exact ⟨h1, h2, h3, h4, h5, h6, h7⟩
def postL : Bs := [80, 79, 83, 84, 32, 47, 32, 72, 84, 84, 80, 47, 49, 46, 49]
def clP : Bs := [67, 111, 110, 116, 101, 110, 116, 45, 76, 101, 110, 103, 116, 104, 58, 32]
def teL : Bs := [84, 114, 97, 110, 115, 102, 101, 114, 45, 69, 110, 99, 111, 100, 105, 110, 103, 58, 32, 99, 104, 117, 110, 107, 101, 100]
def clF (m : Nat) : List UInt8 × List UInt8 := ([67, 111, 110, 116, 101, 110, 116, 45, 76, 101, 110, 103, 116, 104], decS m)
def teF : List UInt8 × List UInt8 := ([84, 114, 97, 110, 115, 102, 101, 114, 45, 69, 110, 99, 111, 100, 105, 110, 103], [99, 104, 117, 110, 107, 101, 100])
def h1 : Bs := (postL ++ [13, 10]) ++ ((hostH ++ [13, 10]) ++ clP)
def h2 : Bs := (postL ++ [13, 10]) ++ ((hostH ++ [13, 10]) ++ ((teL ++ [13, 10]) ++ [13, 10]))
def cfgL (K : Nat) : Cfg := ⟨0, 1024, 32, 8192, 16 + (K : Int), 32, 8, 4, 20, true, true⟩
theorem right_L {K : Nat} (hK : K < 40) : (cfgL K).right := ⟨by show decide _ = true; rw [decide_eq_true_iff]; dsimp only [cfgL]; omega, by show (0 : Int).fdiv (2 ^ 30) = 0; decide⟩
def okCl (m : Nat) : Bool := decide (fieldL 0 [hostF] (clP ++ decS m) 0 = ([hostF, clF m], 0)) && decide (plain (clP ++ decS m)) && decide ((clP ++ decS m).length ≤ 20)
theorem cl_all : ((List.range 50).all okCl) = true := by decide +kernel
theorem cl_ok {m : Nat} (h : m < 50) : fieldL 0 [hostF] (clP ++ decS m) 0 = ([hostF, clF m], 0) ∧ plain (clP ++ decS m) ∧ (clP ++ decS m).length ≤ 20 := by
 have := List.all_eq_true.1 cl_all m (List.mem_range.2 (by omega))
 unfold okCl at this
 simp only [Bool.and_eq_true, decide_eq_true_eq] at this
 exact ⟨this.1.1, this.1.2, this.2⟩
theorem fr_L : ∀ x : Nat, x < 50 → ∀ K : Nat, K < 40 → frameS [hostF, clF x] 0 (16 + (K : Int)) true 1 = if x > 16 + K then (0, 0, 413) else (1, (x : Int), 0) := by decide +kernel
theorem sz_L : ∀ x : Nat, x < 50 → ∀ K : Nat, K < 40 → x = 0 ∨ sizeS (hexS x) 0 (16 + (K : Int)) 32 = if x > 16 + K then (0, 413) else ((x : Int), 0) := by decide +kernel
def begL (K : Nat) : PS := { PS.new (cfgL K) with method := [80, 79, 83, 84], target := [47], minor := 1 }
theorem said_run {x K : Nat} (hx : x < 50) (hK : K < 40) : ((PS.new (cfgL K)).feed (cfgL K) (h1 ++ decS x ++ [13, 10, 13, 10])).err = if x > 16 + K then 413 else 0 := by
 have hC := (right_L hK).ok
 obtain ⟨c1, c3, c4⟩ := cl_ok hx
 have e : h1 ++ decS x ++ [13, 10, 13, 10] = (postL ++ [13, 10]) ++ ((hostH ++ [13, 10]) ++ (((clP ++ decS x) ++ [13, 10]) ++ [13, 10])) := by
  unfold h1
  rw [show ([13, 10, 13, 10] : Bs) = [13, 10] ++ [13, 10] from rfl]
  simp only [List.append_assoc]
 rw [e, feed_append, new_first (m := [80, 79, 83, 84]) (t := [47]) (mi := 1) hC (by decide) (by decide) (by show ((15 : Nat) : Int) ≤ 1024; decide) (by show ((17 : Nat) : Int) ≤ 8192; decide) (by show requestS postL 0 true = _; decide +kernel)]
 rw [feed_append, hd_line (by decide) (by decide) (by show ((7 : Nat) : Int) ≤ 1024; decide) (by show ((17 : Nat) : Int) + ((9 : Nat) : Int) ≤ 8192; decide), if_neg (by show ¬ ((0 : Int) + 1 > 32); decide), show fieldL (cfgL K).p [] hostH 0 = _ from host_any 0]
 rw [feed_append, hd_line c3 (by intro q; have := congrArg List.length q; simp [clP] at this) (by show ((clP ++ decS x).length : Int) ≤ 1024; omega) (by show ((17 : Nat) : Int) + ((9 : Nat) : Int) + _ ≤ 8192; omega), if_neg (by show ¬ ((0 : Int) + 1 + 1 > 32); decide), show fieldL (cfgL K).p ([hostF], (0 : Int)).1 (clP ++ decS x) 0 = _ from c1]
 show (PS.feed (cfgL K) ((begL K).hd 2 (26 + (((clP ++ decS x).length + 2 : Nat) : Int)) [hostF, clF x] 0 (clP ++ decS x)) [13, 10]).err = _
 have hf := fr_L x hx K hK
 have hh : (26 : Int) + (((clP ++ decS x).length + 2 : Nat) : Int) + 2 ≤ 8192 := by omega
 by_cases h : x > 16 + K
 ·rw [if_pos h] at hf ⊢
  rw [hd_unframed (C := cfgL K) (S := begL K) (by show (0 : Int) ≤ 1024; decide) hh (by decide) hf]
  rfl
 ·rw [if_neg h] at hf ⊢
  by_cases h0 : x = 0
  ·subst h0
   rw [hd_whole (C := cfgL K) (S := begL K) (by show (0 : Int) ≤ 1024; decide) hh (by decide) hf]
   rfl
  ·rw [hd_fixed (C := cfgL K) (S := begL K) (by show (0 : Int) ≤ 1024; decide) hh (by decide) (by omega) hf]
   rfl
def chS (l : List Bs) : Bs := l.flatMap fun p => if p = [] then [] else hexS p.length ++ [13, 10] ++ p ++ [13, 10]
theorem chS_cons (p : Bs) (l : List Bs) : chS (p :: l) = (if p = [] then [] else hexS p.length ++ [13, 10] ++ p ++ [13, 10]) ++ chS l := rfl
def chOne (p : Bs) : Bs := if p = [] then [] else hexS p.length ++ [13, 10] ++ p ++ [13, 10]
theorem chOne_run {K : Nat} (hK : K < 40) {S : PS} {w : Bool} {bd p : Bs} {nd : Int} (hp : p.length < 50) (hbd : bd.length ≤ 16 + K) :
  if bd.length + p.length > 16 + K then ((PS.atSize (cfgL K) { S with need := nd } w bd).feed (cfgL K) (chOne p)).err = 413 ∧ ((PS.atSize (cfgL K) { S with need := nd } w bd).feed (cfgL K) (chOne p)).out = S.out
  else ∃ nd' w', (PS.atSize (cfgL K) { S with need := nd } w bd).feed (cfgL K) (chOne p) = PS.atSize (cfgL K) { S with need := nd' } w' (bd ++ p) := by
 obtain ⟨n1, n2, n3, n4, n5, n6, n7⟩ := num_ok (m := p.length) (by omega)
 unfold chOne
 cases p with
 | nil =>
  rw [if_neg (by simp; omega)]
  exact ⟨nd, w, by rw [if_pos rfl, List.append_nil]; rfl⟩
 | cons c d =>
  have hs := (sz_L (c :: d).length hp K hK).resolve_left (by simp)
  rw [if_neg (by simp : ¬ (c :: d) = [])]
  have hm : ((hexS (c :: d).length).length : Int) ≤ lineMost (cfgL K).line := by show _ ≤ (1024 : Int); omega
  by_cases hb : (c :: d).length > 16 + K
  ·rw [if_pos hb] at hs
   rw [if_pos (by omega), feed_append, feed_append, size_bad n6 hm hs (by decide), feed_err (show PS.err (PS.fail _ 413) ≠ 0 by show (413 : Int) ≠ 0; decide), feed_err (show PS.err (PS.fail _ 413) ≠ 0 by show (413 : Int) ≠ 0; decide)]
   exact ⟨rfl, rfl⟩
  ·rw [if_neg hb] at hs
   by_cases h : bd.length + (c :: d).length > 16 + K
   ·rw [if_pos h, feed_append, feed_append, size_much n6 hm hs (by show _ > (16 + (K : Int)) - _; omega), feed_err (show PS.err (PS.fail _ 413) ≠ 0 by show (413 : Int) ≠ 0; decide), feed_err (show PS.err (PS.fail _ 413) ≠ 0 by show (413 : Int) ≠ 0; decide)]
    exact ⟨rfl, rfl⟩
   ·rw [if_neg h]
    have hc := chunk_feed (C := cfgL K) (S := { S with need := nd }) (w := w) (bd := bd) (l := hexS (c :: d).length) (c := c) (d := d) n6 hm hs (by show _ ≤ (16 + (K : Int)) - _; simp only [List.length_cons] at h; omega)
    exact ⟨0, false, hc⟩
theorem two_chunks (p q : Bs) : chS [p, q] = chOne p ++ chOne q := by
 rw [chS_cons, chS_cons]
 show _ ++ (_ ++ []) = _
 rw [List.append_nil]
 rfl
theorem te_L : fieldL 0 [hostF] teL 0 = ([hostF, teF], 0) := by decide +kernel
theorem fr_T (body : Int) : frameS [hostF, teF] 0 body true 1 = (2, 0, 0) := by rfl
def recL (b : Bs) : Rec := ([80, 79, 83, 84], [47], 1, [hostF, teF], true, b, [])
def headL (K : Nat) : PS := { begL K with lines := 2, head := 56, fields := [hostF, teF], chunked := true }
theorem h2_run {K : Nat} (hK : K < 40) : (PS.new (cfgL K)).feed (cfgL K) h2 = PS.atSize (cfgL K) { headL K with need := 0 } (expectsS [hostF, teF] 1) [] := by
 have hC := (right_L hK).ok
 unfold h2
 rw [feed_append, new_first (m := [80, 79, 83, 84]) (t := [47]) (mi := 1) hC (by decide) (by decide) (by show ((15 : Nat) : Int) ≤ 1024; decide) (by show ((17 : Nat) : Int) ≤ 8192; decide) (by show requestS postL 0 true = _; decide +kernel)]
 rw [feed_append, hd_line (by decide) (by decide) (by show ((7 : Nat) : Int) ≤ 1024; decide) (by show ((17 : Nat) : Int) + ((9 : Nat) : Int) ≤ 8192; decide), if_neg (by show ¬ ((0 : Int) + 1 > 32); decide), show fieldL (cfgL K).p [] hostH 0 = _ from host_any 0]
 rw [feed_append, hd_line (by decide) (by decide) (by show ((26 : Nat) : Int) ≤ 1024; decide) (by show ((17 : Nat) : Int) + ((9 : Nat) : Int) + ((28 : Nat) : Int) ≤ 8192; decide), if_neg (by show ¬ ((0 : Int) + 1 + 1 > 32); decide), show fieldL (cfgL K).p ([hostF], (0 : Int)).1 teL 0 = _ from te_L]
 show PS.feed (cfgL K) ((begL K).hd 2 54 [hostF, teF] 0 teL) [13, 10] = _
 rw [hd_chunked (C := cfgL K) (S := begL K) (n := 0) (by show (0 : Int) ≤ 1024; decide) (by show (54 : Int) + 2 ≤ 8192; decide) (fr_T _)]
 rfl
theorem z_L : ∀ K : Nat, K < 40 → sizeS [48] 0 (16 + (K : Int)) 32 = (0, 0) := by decide +kernel
theorem long_run {x y K : Nat} (hx : x < 50) (hy : y < 50) (hK : K < 40) {S : PS} (hS : (PS.new (cfgL K)).feed (cfgL K) (h2 ++ (chS [List.replicate x 0, List.replicate y 0] ++ [48, 13, 10]) ++ [13, 10]) = S) :
  if x + y > 16 + K then S.err = 413 ∧ S.out = [] else S.err = 0 ∧ S.clean = true ∧ S.out = [recL (List.replicate x 0 ++ List.replicate y 0)] := by
 subst hS
 have hlx : (List.replicate x (0 : UInt8)).length = x := List.length_replicate
 have hly : (List.replicate y (0 : UInt8)).length = y := List.length_replicate
 have e : h2 ++ (chS [List.replicate x 0, List.replicate y 0] ++ [48, 13, 10]) ++ [13, 10] = h2 ++ (chOne (List.replicate x 0) ++ (chOne (List.replicate y 0) ++ (([48] ++ [13, 10]) ++ [13, 10]))) := by
  rw [two_chunks, show ([48, 13, 10] : Bs) = [48] ++ [13, 10] from rfl]
  simp only [List.append_assoc]
 rw [e, feed_append, h2_run hK, feed_append]
 have r1 := chOne_run hK (S := headL K) (w := expectsS [hostF, teF] 1) (bd := []) (p := List.replicate x 0) (nd := 0) (by omega) (by simp)
 rw [hlx, List.length_nil, Nat.zero_add, List.nil_append] at r1
 by_cases h1 : x > 16 + K
 ·rw [if_pos h1] at r1
  rw [if_pos (by omega), feed_err (by rw [r1.1]; decide)]
  exact r1
 ·rw [if_neg h1] at r1
  obtain ⟨nd', w', r1⟩ := r1
  rw [r1, feed_append]
  have r2 := chOne_run hK (S := headL K) (w := w') (bd := List.replicate x 0) (p := List.replicate y 0) (nd := nd') (by omega) (by omega)
  rw [hlx, hly] at r2
  by_cases h2 : x + y > 16 + K
  ·rw [if_pos h2] at r2 ⊢
   rw [feed_err (by rw [r2.1]; decide)]
   exact r2
  ·rw [if_neg h2] at r2 ⊢
   obtain ⟨nd2, w2, r2⟩ := r2
   rw [r2, feed_append, size_zero (by decide) (by show ((1 : Nat) : Int) ≤ 1024; decide) (show sizeS [48] (cfgL K).p (cfgL K).body (cfgL K).ext = (0, 0) by exact z_L K hK) (by show ((List.replicate x (0 : UInt8) ++ List.replicate y 0 : Bs).length : Int) ≤ 16 + (K : Int); rw [List.length_append]; omega)]
   rw [tl_blank (.inr rfl) (by show (0 : Int) ≤ 1024; decide) (by show (56 : Int) + 2 ≤ 8192; decide)]
   exact ⟨rfl, rfl, rfl⟩
theorem take_len {α : Type} {l : List α} {n : Nat} (h : l.length = n) : List.take n (List.drop 0 l) = l := by subst h; simp
theorem chS_len {l : List Bs} (hp : ∀ p ∈ l, p.length ≤ 200) : (chS l).length ≤ 300 * l.length := by
 induction l with
 | nil => simp [chS]
 | cons p l ih =>
  have h1 := ih (fun q hq => hp q (List.mem_cons_of_mem _ hq))
  have h2 := hp p (List.mem_cons_self ..)
  obtain ⟨n1, n2, n3, n4, n5, n6, n7⟩ := num_ok h2
  rw [chS_cons, List.length_append, List.length_cons]
  split
  ·simp; omega
  ·simp; omega
theorem chunks_f {l : List Bs} (hl : l.length ≤ 20) (hp : ∀ p ∈ l, p.length ≤ 200) : q87.f l = some (chS l ++ [48, 13, 10]) := by
 have hL : q87.L3.f l [] 0 = some (chS l) := by
  unfold q87.L3.f
  refine (Loop_list (A := Bs) (a := []) l (fun k a => (a, (k : Int))) (fun k a => a.length ≤ 300 * k) (fun a c => .inl (a ++ (if c = [] then [] else hexS c.length ++ [13, 10] ++ c ++ [13, 10]))) (fun a => a) ?_ ?_ (by omega) (Nat.le_refl _) rfl).trans ?_
  ·intro k a c hi hk hc
   have hc200 := hp c (hc ▸ List.getElem_mem hk)
   obtain ⟨n1, n2, n3, n4, n5, n6, n7⟩ := num_ok hc200
   have hw := wS (k := k) (by omega)
   have hat : l.getD ((0 : Nat) + (k : Int).toNat) [] = c := by rw [Nat.zero_add, Int.toNat_natCast]; exact getD_nat hk hc
   refine ⟨?_, fun a' ha => ?_⟩
   ·unfold q87.L3.t
    dsimp only
    rw [hat]
    refine go_t (by rw [decide_eq_true_iff]; omega) ?_
    refine go_chk (by omega) ?_
    refine go_chk (by omega) ?_
    by_cases h0 : c = []
    ·subst h0
     refine go_f rfl ?_
     repeat rw [vokl]
     rw [if_pos rfl, List.append_nil, hw]
     rfl
    ·have hpos : 0 < c.length := List.length_pos_iff.2 h0
     refine go_t (by rw [decide_eq_true_iff]; omega) ?_
     refine go_chk (by omega) ?_
     refine go_chk (by omega) ?_
     refine go_call n2 ?_
     rw [take_all]
     have t1 : List.take (a.length + (hexS c.length).length) (List.drop (0 : Nat) (a ++ hexS c.length)) = a ++ hexS c.length := take_len (by simp only [List.length_append])
     rw [t1]
     have t2 : List.take (a.length + (hexS c.length).length + ([13, 10] : Bs).length) (List.drop (0 : Nat) (a ++ hexS c.length ++ [13, 10])) = a ++ hexS c.length ++ [13, 10] := take_len (by simp only [List.length_append])
     rw [t2]
     have t3 : List.take (a.length + (hexS c.length).length + ([13, 10] : Bs).length + c.length) (List.drop (0 : Nat) (a ++ hexS c.length ++ [13, 10] ++ c)) = a ++ hexS c.length ++ [13, 10] ++ c := take_len (by simp only [List.length_append])
     rw [t3]
     refine go_chk (by omega) ?_
     refine go_chk (by omega) ?_
     refine go_chk (by first | (simp only [List.length_append]; omega) | (simp; done) | (simp; omega)) ?_
     refine go_chk (by simp only [List.length_cons, List.length_nil]; omega) ?_
     refine go_chk (by omega) ?_
     refine go_chk (by omega) ?_
     refine go_chk (by first | (simp only [List.length_append]; omega) | (simp; done) | (simp; omega)) ?_
     refine go_chk (by simp only [List.length_cons, List.length_nil]; omega) ?_
     refine go_chk (by first | (simp only [List.length_append]; omega) | (simp; done) | (simp; omega)) ?_
     refine go_chk (by simp only [List.length_cons, List.length_nil]; omega) ?_
     rw [vokl]
     refine go_chk (by first | (simp only [List.length_append]; omega) | (simp; done) | (simp; omega)) ?_
     rw [if_neg h0, hw]
     show some _ = some (Sum.inl (a ++ (hexS c.length ++ [13, 10] ++ c ++ [13, 10]), _))
     simp only [List.append_assoc]
   ·cases ha
    split
    ·simp; omega
    ·simp; omega
  ·intro a _
   unfold q87.L3.t
   dsimp only
   refine go_f (by rw [decide_eq_false_iff_not]; omega) ?_
   rfl
  ·have : ∀ (m : List Bs) (a : Bs), foldE (fun a c => (Sum.inl (a ++ (if c = [] then [] else hexS c.length ++ [13, 10] ++ c ++ [13, 10])) : Bs ⊕ Bs)) (fun a => a) a m = a ++ chS m := by
    intro m
    induction m with
    | nil => intro a; simp [foldE, chS]
    | cons c m ih =>
     intro a
     show foldE _ _ (a ++ (if c = [] then [] else hexS c.length ++ [13, 10] ++ c ++ [13, 10])) m = _
     rw [ih, chS_cons, List.append_assoc]
   rw [this, List.nil_append]
 have hlen := chS_len hp
 unfold q87.f q87.t
 rw [vokl]
 refine go_call hL ?_
 rw [take_all]
 refine go_chk (by omega) ?_
 refine go_chk (by simp only [List.length_cons, List.length_nil]; omega) ?_
 refine go_chk (by simp) ?_
 rfl
theorem go_two {α : Type} [DecidableEq α] {a b : Tr α} {y : α} (h1 : a.val = some y) (h2 : b.val = some y) : (Tr.two a b).val = some y := by
 simp [Tr.val, h1, h2]
theorem long_ok (n m k : UInt8) (chunked : Bool) : q20.f n m k chunked = some true := by
 have hx : n.toNat % 50 < 50 := Nat.mod_lt _ (by decide)
 have hy : m.toNat % 50 < 50 := Nat.mod_lt _ (by decide)
 have hK : k.toNat % 40 < 40 := Nat.mod_lt _ (by decide)
 have en := mod_i n 50 (by decide) (by decide)
 have em := mod_i m 50 (by decide) (by decide)
 have ek := mod_i k 40 (by decide) (by decide)
 unfold q20.f q20.t
 rw [show IntKind.i64.wrap ((Int.ofNat n.toNat).tmod (50 : Int)) = _ from en, show IntKind.i64.wrap ((Int.ofNat m.toNat).tmod (50 : Int)) = _ from em, show IntKind.i64.wrap ((Int.ofNat k.toNat).tmod (40 : Int)) = _ from ek]
 generalize n.toNat % 50 = x at hx ⊢
 generalize m.toNat % 50 = y at hy ⊢
 generalize k.toNat % 40 = K at hK ⊢
 rw [w64 (n := (16 : Int) + ((K : Nat) : Int)) (by omega) (by omega), w64 (n := ((x : Nat) : Int) + ((y : Nat) : Int)) (by omega) (by omega), Int.toNat_natCast, Int.toNat_natCast]
 have hR := right_L hK
 have hC := hR.ok
 have hG0 := new_good hC
 have e1 : ([80, 79, 83, 84, 32, 47, 32, 72, 84, 84, 80, 47, 49, 46, 49, 13, 10, 72, 111, 115, 116, 58, 32, 104, 13, 10, 67, 111, 110, 116, 101, 110, 116, 45, 76, 101, 110, 103, 116, 104, 58, 32] : Bs) = h1 := rfl
 have e2 : ([80, 79, 83, 84, 32, 47, 32, 72, 84, 84, 80, 47, 49, 46, 49, 13, 10, 72, 111, 115, 116, 58, 32, 104, 13, 10, 84, 114, 97, 110, 115, 102, 101, 114, 45, 69, 110, 99, 111, 100, 105, 110, 103, 58, 32, 99, 104, 117, 110, 107, 101, 100, 13, 10, 13, 10] : Bs) = h2 := rfl
 have hh1 : h1.length = 42 := rfl
 have hh2 : h2.length = 56 := rfl
 refine go_call known_f ?_
 refine go_f rfl ?_
 refine go_call rfl ?_
 dsimp only
 cases chunked with
 | false =>
  obtain ⟨n1, n2, n3, n4, n5, n6, n7⟩ := num_ok (m := x) (by omega)
  have hres := said_run hx hK
  have hl : (h1 ++ decS x ++ [13, 10, 13, 10]).length ≤ 60 := by rw [List.length_append, List.length_append, hh1]; simp only [List.length_cons, List.length_nil]; omega
  refine go_t rfl ?_
  refine go_call n1 ?_
  rw [e1]
  refine go_chk (by rw [hh1]; omega) ?_
  refine go_chk (by rw [List.length_append, hh1]; simp only [List.length_cons, List.length_nil]; omega) ?_
  refine go_chk (by omega) ?_
  refine go_call (new_f (cfgL K)) ?_
  rw [show PS.new' (cfgL K) = PS.new (cfgL K) from if_pos hR]
  dsimp only [PS.tupN]
  refine go_chk (by rw [List.nil_append]; omega) ?_
  repeat rw [vokl]
  refine go_chk (by simp) ?_
  rw [List.nil_append, take_all]
  refine go_call (feed_f (C := cfgL K) (S := PS.new (cfgL K)) (parts := [h1 ++ decS x ++ [13, 10, 13, 10]]) hC (linesOk _) (by simp) (n := 0) (by simp only [List.flatten_cons, List.flatten_nil, List.append_nil]; omega) hG0) ?_
  rw [show [h1 ++ decS x ++ [13, 10, 13, 10]].flatten = h1 ++ decS x ++ [13, 10, 13, 10] by simp, new_taken]
  generalize hS : (PS.new (cfgL K)).feed (cfgL K) (h1 ++ decS x ++ [13, 10, 13, 10]) = S at hres ⊢
  dsimp only [PS.tupF]
  repeat rw [vokl]
  refine go_call (err_f _ _ _ _ _) ?_
  repeat rw [vokl]
  refine go_call (clean_f S _ _ _ _ _) ?_
  rw [hres]
  by_cases h : x > 16 + K
  ·rw [if_pos h]
   exact go_t (by rw [decide_eq_true_iff]; omega) rfl
  ·rw [if_neg h]
   exact go_f (by rw [decide_eq_false_iff_not]; omega) rfl
 | true =>
  refine go_f rfl ?_
  rw [e2]
  have hp : ∀ p ∈ [List.replicate x (0 : UInt8), List.replicate y 0], p.length ≤ 200 := by
   intro p hp
   simp only [List.mem_cons, List.not_mem_nil, or_false] at hp
   rcases hp with rfl | rfl <;> rw [List.length_replicate] <;> omega
  have hlx : (List.replicate x (0 : UInt8)).length = x := List.length_replicate
  have hly : (List.replicate y (0 : UInt8)).length = y := List.length_replicate
  have tx : List.take x (List.drop (0 : Nat) (List.replicate x (0 : UInt8))) = List.replicate x 0 := take_len hlx
  have ty : List.take y (List.drop (0 : Nat) (List.replicate y (0 : UInt8))) = List.replicate y 0 := take_len hly
  rw [tx, ty]
  have hY := chS_len hp
  have hYl : (chS [List.replicate x (0 : UInt8), List.replicate y 0] ++ [48, 13, 10]).length ≤ 1000 := by rw [List.length_append]; simp only [List.length_cons, List.length_nil] at hY ⊢; omega
  have hcf := chunks_f (by simp) hp
  have hlr := fun S => long_run hx hy hK (S := S)
  have q1 : (0 : Int) ≤ ((x : Nat) : Int) ∧ ((x : Nat) : Int) ≤ ((x : Nat) : Int) ∧ ((x : Nat) : Int) * (↑(1 : Nat) : Int) ≤ (140737488355328 : Int) ∧ ((x : Nat) : Int) ≤ (140737488355328 : Int) := by omega
  have q2 : (0 : Int) ≤ ((y : Nat) : Int) ∧ ((y : Nat) : Int) ≤ ((y : Nat) : Int) ∧ ((y : Nat) : Int) * (↑(1 : Nat) : Int) ≤ (140737488355328 : Int) ∧ ((y : Nat) : Int) ≤ (140737488355328 : Int) := by omega
  refine go_two (go_chk q1 (go_chk q2 ?_)) (go_chk q2 (go_chk q1 ?_))
  all_goals
   refine go_chk (by omega) ?_
   refine go_chk (by omega) ?_
   refine go_chk (by simp) ?_
   refine go_call hcf ?_
   generalize hYd : chS [List.replicate x (0 : UInt8), List.replicate y 0] ++ [48, 13, 10] = Y at hYl hlr ⊢
   rw [take_all]
   have t4 : List.take (56 + Y.length) (List.drop (0 : Nat) (h2 ++ Y)) = h2 ++ Y := take_len (by rw [List.length_append, hh2])
   rw [t4]
   have t5 : List.take (56 + Y.length + ([13, 10] : Bs).length) (List.drop (0 : Nat) (h2 ++ Y ++ [13, 10])) = h2 ++ Y ++ [13, 10] := take_len (by rw [List.length_append, List.length_append, hh2])
   rw [t5]
   have hl2 : (h2 ++ Y ++ [13, 10]).length ≤ 1100 := by rw [List.length_append, List.length_append, hh2]; simp only [List.length_cons, List.length_nil]; omega
   have hl3 : (h2 ++ Y ++ [13, 10]).length = 56 + Y.length + ([13, 10] : Bs).length := by rw [List.length_append, List.length_append, hh2]
   refine go_chk (by omega) ?_
   refine go_chk (by omega) ?_
   refine go_chk (by rw [List.length_append, hh2]; omega) ?_
   refine go_chk (by simp only [List.length_cons, List.length_nil]; omega) ?_
   refine go_call (new_f (cfgL K)) ?_
   rw [show PS.new' (cfgL K) = PS.new (cfgL K) from if_pos hR]
   dsimp only [PS.tupN]
   refine go_chk (by rw [hl3]; omega) ?_
   repeat rw [vokl]
   refine go_chk (by simp) ?_
   have hres := hlr _ rfl
   generalize h2 ++ Y ++ [13, 10] = s at hl2 hres ⊢
   refine go_call (feed_f (C := cfgL K) (S := PS.new (cfgL K)) (parts := [s]) hC (linesOk _) (by simp) (n := 0) (by simp only [List.flatten_cons, List.flatten_nil, List.append_nil]; omega) hG0) ?_
   rw [show [s].flatten = s by simp, new_taken]
   generalize (PS.new (cfgL K)).feed (cfgL K) s = S at hres ⊢
   dsimp only [PS.tupF]
   repeat rw [vokl]
   refine go_call (err_f _ _ _ _ _) ?_
   repeat rw [vokl]
   refine go_call (clean_f S _ _ _ _ _) ?_
   by_cases h : x + y > 16 + K
   ·rw [if_pos h] at hres
    refine go_t (by rw [decide_eq_true_iff]; omega) ?_
    refine go_t (by rw [hres.1]; rfl) ?_
    show some _ = _
    rw [hres.2]; rfl
   ·rw [if_neg h] at hres
    obtain ⟨g1, g2, g3⟩ := hres
    rcases S with ⟨_, _, _, _, _, _, _, _, _, _, _, _, _, _, _, _, _, _, _, out⟩
    dsimp only at g1 g3 ⊢
    subst g3
    refine go_f (by rw [decide_eq_false_iff_not]; omega) ?_
    refine go_t (by rw [g1]; rfl) ?_
    refine go_t g2 ?_
    refine go_t rfl ?_
    refine go_chk (by simp) ?_
    refine go_chk (by simp) ?_
    show some _ = some true
    congr 1
    show (((List.replicate x (0 : UInt8) ++ List.replicate y 0 : Bs).length : Int) == ((x : Nat) : Int) + ((y : Nat) : Int)) = true
    rw [List.length_append, hlx, hly, Int.natCast_add]
    exact beq_self_eq_true _
end Pl
end Go.Vx
end
