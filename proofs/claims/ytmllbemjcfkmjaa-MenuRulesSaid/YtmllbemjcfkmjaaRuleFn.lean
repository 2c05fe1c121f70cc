/- A rule's step and its answer, the document's; a rule's memory as a map's key. -/
import Derived.Test.YtmllbemjcfkmjaaRuleLaw
import Derived.Test.YtmllbemjcfkmjaaDocWalk
namespace Go.Proofs.Ytmllbemjcfkmjaa
open Go.RowKit Go.Maps
set_option linter.unusedSimpArgs false
set_option linter.unusedVariables false

def rvV (l b t : Int) (x : Bool) : Value := .agg #[.int .i64 l, .int .i64 b, .int .i64 t, .bool x]
def recV (c : Int) : Value := rvV (rL c - 1) (rB c - 1) (rT c) (decide (rX c = 1))
def rulV (k L a b : Int) : Value := .agg #[.int .i64 k, .int .i64 L, .int .i64 a, .int .i64 b]
theorem lost_dec (p : Bool) : decide (lostI p = 1) = p := by cases p <;> rfl
/-- What a rule remembers behind one more letter. -/
def nextV (k a b l bb t : Int) (x : Bool) (d : Nat) : Value :=
  if k = 0 then rvV d l 0 (x || (decide (2 ≤ a) && decide ((d : Int) = l)) || (decide (3 ≤ a) && decide ((d : Int) = bb)))
  else if k = 3 then rvV d (-1) 0 (x || (decide (l = a) && decide ((d : Int) = b)))
  else if (d : Int) = a then rvV l bb (if t + 1 < 21 then t + 1 else 21) x else rvV l bb t x
theorem nextV_rec (k a b : Int) {c : Int} (h0 : 0 ≤ c) (h1 : c < 2156) {d : Nat} (hd : d < 6) : nextV k a b (rL c - 1) (rB c - 1) (rT c) (decide (rX c = 1)) d = recV (ruS k a b c d) := by
  obtain ⟨g1, g2, g3, g4, g5⟩ := dec_bd h0 h1
  unfold nextV
  by_cases k0 : k = 0
  · subst k0
    rw [if_pos rfl, ruS_apart]
    have hd := enc_dec (l := (d : Int) + 1) (b := rL c) (t := 0) (x := lostI (decide (rX c = 1) || (decide (2 ≤ a) && decide ((d : Int) = rL c - 1)) || (decide (3 ≤ a) && decide ((d : Int) = rB c - 1)))) (by omega) g1 (by omega) (lost_bd _)
    unfold recV
    rw [hd.2.1, hd.2.2.1, hd.2.2.2.1, hd.2.2.2.2, lost_dec, show (d : Int) + 1 - 1 = d by omega]
  · rw [if_neg k0]
    by_cases k3 : k = 3
    · subst k3
      rw [if_pos rfl, ruS_never]
      have hd := enc_dec (l := (d : Int) + 1) (b := 0) (t := 0) (x := lostI (decide (rX c = 1) || (decide (rL c - 1 = a) && decide ((d : Int) = b)))) (by omega) (by omega) (by omega) (lost_bd _)
      unfold recV
      rw [hd.2.1, hd.2.2.1, hd.2.2.2.1, hd.2.2.2.2, lost_dec, show (d : Int) + 1 - 1 = d by omega]
      rfl
    · rw [if_neg k3]
      have e : ruS k a b c d = if (d : Int) = a then encR (rL c) (rB c) (if rT c + 1 < 21 then rT c + 1 else 21) (rX c) else c := by
        unfold ruS
        rw [if_neg k0, if_neg k3]
      rw [e]
      by_cases ed : (d : Int) = a
      · rw [if_pos ed, if_pos ed]
        have hd := enc_dec (l := rL c) (b := rB c) (t := (if rT c + 1 < 21 then rT c + 1 else 21)) (x := rX c) g1 g2 (by split <;> omega) g4
        unfold recV
        rw [hd.2.1, hd.2.2.1, hd.2.2.2.1, hd.2.2.2.2]
      · rw [if_neg ed, if_neg ed]
        rfl

set_option maxRecDepth 100000 in
set_option maxHeartbeats 4000000 in
theorem rnext_raw (k L a b l bb t : Int) (x : Bool) (d : Nat) (W : World) (ht : 0 ≤ t ∧ t ≤ 21) :
    Calls Try.prog 113 #[rulV k L a b, rvV l bb t x, .int .i64 (d : Nat)] W fun e w' => e = .returned (nextV k a b l bb t x d) ∧ Below W.heap.size W w' := by
  have hbz : Below W.heap.size W W := Below.refl _ _
  have hw : IntKind.i64.wrap (t + 1) = t + 1 := IntWalk.i64_in _ (by omega)
  by_cases k0 : k = 0
  · subst k0
    have R : Hid (nextV 0 a b l bb t x d = rvV d l 0 (x || (decide (2 ≤ a) && decide ((d : Int) = l)) || (decide (3 ≤ a) && decide ((d : Int) = bb)))) := hid (by unfold nextV; rw [if_pos rfl])
    cases x
    · by_cases c1 : 2 ≤ a
      · by_cases c2 : (d : Int) = l
        · have e2 : ((d : Int) == l) = true := beq_iff_eq.2 c2
          have Rv := hid (R.out.trans (show _ = rvV d l 0 true by simp [c1, c2]))
          clear R c2
          unfold rulV rvV
          go_enter Try.func113, Try.ntmps113
          go_wp2_with fail
          refine bodyPost_ret (v := rvV d l 0 true) (by simp [results, Try.results113, go_sem, rvV]) rfl ⟨by rw [Rv.out], ((hbz.alloc (Nat.le_refl _) _).alloc (by simp) _).alloc (by simp; omega) _⟩
        · by_cases c3 : 3 ≤ a
          · by_cases c4 : (d : Int) = bb
            · have e2 : ((d : Int) == l) = false := beq_eq_false_iff_ne.2 c2
              have e4 : ((d : Int) == bb) = true := beq_iff_eq.2 c4
              have Rv := hid (R.out.trans (show _ = rvV d l 0 true by simp [c1, c2, c3, c4]))
              clear R c2 c4
              unfold rulV rvV
              go_enter Try.func113, Try.ntmps113
              go_wp2_with fail
              refine bodyPost_ret (v := rvV d l 0 true) (by simp [results, Try.results113, go_sem, rvV]) rfl ⟨by rw [Rv.out], ((hbz.alloc (Nat.le_refl _) _).alloc (by simp) _).alloc (by simp; omega) _⟩
            · have e2 : ((d : Int) == l) = false := beq_eq_false_iff_ne.2 c2
              have e4 : ((d : Int) == bb) = false := beq_eq_false_iff_ne.2 c4
              have Rv := hid (R.out.trans (show _ = rvV d l 0 false by simp [c1, c2, c3, c4]))
              clear R c2 c4
              unfold rulV rvV
              go_enter Try.func113, Try.ntmps113
              go_wp2_with fail
              refine bodyPost_ret (v := rvV d l 0 false) (by simp [results, Try.results113, go_sem, rvV]) rfl ⟨by rw [Rv.out], ((hbz.alloc (Nat.le_refl _) _).alloc (by simp) _).alloc (by simp; omega) _⟩
          · have e2 : ((d : Int) == l) = false := beq_eq_false_iff_ne.2 c2
            have Rv := hid (R.out.trans (show _ = rvV d l 0 false by simp [c1, c2, c3]))
            clear R c2
            unfold rulV rvV
            go_enter Try.func113, Try.ntmps113
            go_wp2_with fail
            refine bodyPost_ret (v := rvV d l 0 false) (by simp [results, Try.results113, go_sem, rvV]) rfl ⟨by rw [Rv.out], ((hbz.alloc (Nat.le_refl _) _).alloc (by simp) _).alloc (by simp; omega) _⟩
      · have c5 : ¬ 3 ≤ a := by omega
        have Rv := hid (R.out.trans (show _ = rvV d l 0 false by simp [c1, c5]))
        clear R
        unfold rulV rvV
        go_enter Try.func113, Try.ntmps113
        go_wp2_with fail
        refine bodyPost_ret (v := rvV d l 0 false) (by simp [results, Try.results113, go_sem, rvV]) rfl ⟨by rw [Rv.out], ((hbz.alloc (Nat.le_refl _) _).alloc (by simp) _).alloc (by simp; omega) _⟩
    · have Rv := hid (R.out.trans (show _ = rvV d l 0 true by simp []))
      clear R
      unfold rulV rvV
      go_enter Try.func113, Try.ntmps113
      go_wp2_with fail
      refine bodyPost_ret (v := rvV d l 0 true) (by simp [results, Try.results113, go_sem, rvV]) rfl ⟨by rw [Rv.out], ((hbz.alloc (Nat.le_refl _) _).alloc (by simp) _).alloc (by simp; omega) _⟩
  · have n0 : (k == 0) = false := beq_eq_false_iff_ne.2 k0
    by_cases k3 : k = 3
    · subst k3
      have R : Hid (nextV 3 a b l bb t x d = rvV d (-1) 0 (x || (decide (l = a) && decide ((d : Int) = b)))) := hid (by unfold nextV; rw [if_neg (by decide), if_pos rfl])
      cases x
      · by_cases c1 : l = a
        · by_cases c2 : (d : Int) = b
          · have e1 : (l == a) = true := beq_iff_eq.2 c1
            have e2 : ((d : Int) == b) = true := beq_iff_eq.2 c2
            have Rv := hid (R.out.trans (show _ = rvV d (-1) 0 true by simp [c1, c2]))
            clear R c1 c2 n0 k0
            unfold rulV rvV
            go_enter Try.func113, Try.ntmps113
            go_wp2_with fail
            refine bodyPost_ret (v := rvV d (-1) 0 true) (by simp [results, Try.results113, go_sem, rvV]) rfl ⟨by rw [Rv.out], ((hbz.alloc (Nat.le_refl _) _).alloc (by simp) _).alloc (by simp; omega) _⟩
          · have e1 : (l == a) = true := beq_iff_eq.2 c1
            have e2 : ((d : Int) == b) = false := beq_eq_false_iff_ne.2 c2
            have Rv := hid (R.out.trans (show _ = rvV d (-1) 0 false by simp [c1, c2]))
            clear R c1 c2 n0 k0
            unfold rulV rvV
            go_enter Try.func113, Try.ntmps113
            go_wp2_with fail
            refine bodyPost_ret (v := rvV d (-1) 0 false) (by simp [results, Try.results113, go_sem, rvV]) rfl ⟨by rw [Rv.out], ((hbz.alloc (Nat.le_refl _) _).alloc (by simp) _).alloc (by simp; omega) _⟩
        · have e1 : (l == a) = false := beq_eq_false_iff_ne.2 c1
          have Rv := hid (R.out.trans (show _ = rvV d (-1) 0 false by simp [c1]))
          clear R c1 n0 k0
          unfold rulV rvV
          go_enter Try.func113, Try.ntmps113
          go_wp2_with fail
          refine bodyPost_ret (v := rvV d (-1) 0 false) (by simp [results, Try.results113, go_sem, rvV]) rfl ⟨by rw [Rv.out], ((hbz.alloc (Nat.le_refl _) _).alloc (by simp) _).alloc (by simp; omega) _⟩
      · have Rv := hid (R.out.trans (show _ = rvV d (-1) 0 true by simp []))
        clear R n0 k0
        unfold rulV rvV
        go_enter Try.func113, Try.ntmps113
        go_wp2_with fail
        refine bodyPost_ret (v := rvV d (-1) 0 true) (by simp [results, Try.results113, go_sem, rvV]) rfl ⟨by rw [Rv.out], ((hbz.alloc (Nat.le_refl _) _).alloc (by simp) _).alloc (by simp; omega) _⟩
    · have n3 : (k == 3) = false := beq_eq_false_iff_ne.2 k3
      by_cases c1 : (d : Int) = a
      · have e1 : ((d : Int) == a) = true := beq_iff_eq.2 c1
        have R : Hid (nextV k a b l bb t x d = rvV l bb (if t + 1 < 21 then t + 1 else 21) x) := hid (by unfold nextV; rw [if_neg k0, if_neg k3, if_pos c1])
        clear c1 k0 k3
        unfold rulV rvV
        go_enter Try.func113, Try.ntmps113
        go_wp2_with fail
        · have eq : (if t + 1 < 21 then t + 1 else 21) = 21 := if_neg (by omega)
          refine bodyPost_ret (v := rvV l bb 21 x) (by simp [results, Try.results113, go_sem, rvV]) rfl ⟨by rw [R.out, eq], ((hbz.alloc (Nat.le_refl _) _).alloc (by simp) _).alloc (by simp; omega) _⟩
        · have eq : (if t + 1 < 21 then t + 1 else 21) = t + 1 := by split <;> omega
          refine bodyPost_ret (v := rvV l bb (t + 1) x) (by simp [results, Try.results113, go_sem, rvV]) rfl ⟨by rw [R.out, eq], ((hbz.alloc (Nat.le_refl _) _).alloc (by simp) _).alloc (by simp; omega) _⟩
      · have e1 : ((d : Int) == a) = false := beq_eq_false_iff_ne.2 c1
        have R : Hid (nextV k a b l bb t x d = rvV l bb t x) := hid (by unfold nextV; rw [if_neg k0, if_neg k3, if_neg c1])
        clear c1 k0 k3
        unfold rulV rvV
        go_enter Try.func113, Try.ntmps113
        go_wp2_with fail
        refine bodyPost_ret (v := rvV l bb t x) (by simp [results, Try.results113, go_sem, rvV]) rfl ⟨by rw [R.out], ((hbz.alloc (Nat.le_refl _) _).alloc (by simp) _).alloc (by simp; omega) _⟩

theorem rnext_any (k L a b : Int) {c : Int} (h0 : 0 ≤ c) (h1 : c < 2156) {d : Nat} (hd : d < 6) (W : World) :
    Calls Try.prog 113 #[rulV k L a b, recV c, .int .i64 (d : Nat)] W fun e w' => e = .returned (recV (ruS k a b c d)) ∧ Below W.heap.size W w' := by
  have h := rnext_raw k L a b (rL c - 1) (rB c - 1) (rT c) (decide (rX c = 1)) d W (dec_bd h0 h1).2.2.1
  rw [nextV_rec k a b h0 h1 hd] at h
  exact h
def keepB (k b t : Int) (x : Bool) : Bool := if k = 1 then decide (b ≤ t) else if k = 2 then decide (t ≤ b) else !x
set_option maxRecDepth 100000 in
set_option maxHeartbeats 4000000 in
theorem rkeeps_raw (k L a b l bb t : Int) (x : Bool) (W : World) :
    Calls Try.prog 114 #[rulV k L a b, rvV l bb t x] W fun e w' => e = .returned (.bool (keepB k b t x)) ∧ Below W.heap.size W w' := by
  have hbz : Below W.heap.size W W := Below.refl _ _
  by_cases k1 : k = 1
  · subst k1
    unfold rulV rvV
    go_enter Try.func114, Try.ntmps114
    go_wp2_with fail
    go_ret
    exact ⟨rfl, (hbz.alloc (by simp) _).alloc (by simp) _⟩
  · have n1 : (k == 1) = false := beq_eq_false_iff_ne.2 k1
    by_cases k2 : k = 2
    · subst k2
      clear n1
      unfold rulV rvV
      go_enter Try.func114, Try.ntmps114
      go_wp2_with fail
      go_ret
      exact ⟨rfl, (hbz.alloc (by simp) _).alloc (by simp) _⟩
    · have n2 : (k == 2) = false := beq_eq_false_iff_ne.2 k2
      have R : Hid (keepB k b t x = !x) := hid (by unfold keepB; rw [if_neg k1, if_neg k2])
      clear k1 k2
      unfold rulV rvV
      go_enter Try.func114, Try.ntmps114
      go_wp2_with fail
      go_ret
      exact ⟨by rw [R.out]; rfl, (hbz.alloc (by simp) _).alloc (by simp) _⟩
theorem rkeeps_any (k L a b c : Int) (W : World) : Calls Try.prog 114 #[rulV k L a b, recV c] W fun e w' => e = .returned (.bool (ruA k b c)) ∧ Below W.heap.size W w' :=
  rkeeps_raw k L a b (rL c - 1) (rB c - 1) (rT c) (decide (rX c = 1)) W
/-! ### the key -/
theorem wide122 : (match Try.prog.underlying 122 with | some (.array _ _) | some (.struct _) => true | _ => false) = true := by rw [Try.underlying122]
set_option maxRecDepth 100000 in
theorem law122 : Keyed Try.prog 122 := Keyed.of_law (deep_law_laid laid_out (m := 4) (by omega) (of_decide_eq_true (by kernel_rfl)) (by kernel_rfl) wide122)
theorem cells122 : Try.prog.cellsOf 122 = 4 := by kernel_rfl
theorem ktype122 : Try.prog.keyType 122 = true := by kernel_rfl
set_option maxRecDepth 100000 in
theorem key122 {c : Int} (h0 : 0 ≤ c) (h1 : c < 2156) : ∃ l, keyOf Try.prog 122 (recV c) = some l := by
  obtain ⟨g1, g2, g3, g4, g5⟩ := dec_bd h0 h1
  have hw : ∀ y : Int, -1 ≤ y → y ≤ 30 → (Lit.int .i64 y).wf = true := fun y a1 a2 => by
    simp only [Lit.wf, Bool.and_eq_true, decide_eq_true_eq]
    have e1 : (-9223372036854775808 : Int) ≤ y := by omega
    have e2 : y ≤ 9223372036854775807 := by omega
    exact ⟨e1, e2⟩
  obtain ⟨n, hn⟩ := types_size
  have w1 := lits3 (n + 2) _ (hw (rL c - 1) (by omega) (by omega))
  have w2 := lits3 (n + 2) _ (hw (rB c - 1) (by omega) (by omega))
  have w3 := lits3 (n + 2) _ (hw (rT c) (by omega) (by omega))
  have hf : (recV c).formed Try.prog 122 = true := by simp [recV, rvV, Value.formed, Try.underlying122, cells122]
  have hgoal : Try.prog.keyLits (n + 3 + 1) 122 (recV c).cells.toList = some [.int .i64 (rL c - 1), .int .i64 (rB c - 1), .int .i64 (rT c), .bool (decide (rX c = 1))] := by
    have hv : (recV c).cells.toList = [.int .i64 (rL c - 1), .int .i64 (rB c - 1), .int .i64 (rT c), .bool (decide (rX c = 1))] := rfl
    rw [hv, show n + 3 + 1 = (n + 2 + 1) + 1 from rfl]
    unfold Program.keyLits
    rw [Try.underlying122]
    refine (if_pos ⟨by rw [cells122]; rfl, by simp⟩).trans ?_
    simp only [List.mapM_cons, List.mapM_nil, cells3, cells4, List.drop_zero, List.take_succ_cons, List.take_zero, List.drop_succ_cons, lits4, w1, w2, w3]
    rfl
  refine ⟨.string (keyBytes [.int .i64 (rL c - 1), .int .i64 (rB c - 1), .int .i64 (rT c), .bool (decide (rX c = 1))]), ?_⟩
  unfold keyOf
  rw [Try.underlying122, ktype122, hf, hn]
  simp only [Bool.and_self, if_true]
  rw [hgoal]
  rfl
def recD (c : Int) : Prop := 0 ≤ c ∧ c < 2156
theorem recV_inj : ∀ a b, recD a → recD b → recV a = recV b → a = b := by
  intro a b ha hb h
  obtain ⟨_, _, _, x1, e1⟩ := dec_bd ha.1 ha.2
  obtain ⟨_, _, _, x2, e2⟩ := dec_bd hb.1 hb.2
  simp only [recV, rvV, Value.agg.injEq, Array.mk.injEq, List.cons.injEq, Value.int.injEq, Value.bool.injEq, true_and, and_true, decide_eq_decide] at h
  rw [← e1, ← e2]
  unfold encR
  omega
end Go.Proofs.Ytmllbemjcfkmjaa
