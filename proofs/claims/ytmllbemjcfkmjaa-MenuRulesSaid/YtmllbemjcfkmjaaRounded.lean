/- Texts of the menu seat in one: Det, TopPlain, Numbered, Rounded. -/
import Derived.Test.YtmllbemjcfkmjaaGenOne
import Derived.Test.YtmllbemjcfkmjaaEqual
import Derived.Test.YtmllbemjcfkmjaaRound
import Derived.Test.YtmllbemjcfkmjaaRank
import Derived.BigQuiet
/- The machine and the error that a plain form is, as functions of the language: so that what the program gives and what the document gives are one term. -/
namespace Go.Proofs.Ytmllbemjcfkmjaa
open Go.RowKit Go.Maps
set_option linter.unusedSimpArgs false
set_option linter.unusedVariables false

def zeroM : Mac := ⟨0, [], []⟩
open Classical in
noncomputable def gnF (L : Nat) (la : Lang) : List Lang := if h : ∃ F, Found (succL L) la F then h.choose else []
noncomputable def gnE (E : Int) (L : Nat) (la : Lang) : Int := if E = 0 then (if (gnF L la).length ≤ 64 then 0 else 4) else E
noncomputable def gnM (E : Int) (L : Nat) (la : Lang) : Mac := if E = 0 ∧ (gnF L la).length ≤ 64 then macOf L (gnF L la) else zeroM
theorem gnF_of {L : Nat} {la : Lang} {F : List Lang} (hF : Found (succL L) la F) : gnF L la = F := by
  have h : ∃ F, Found (succL L) la F := ⟨F, hF⟩
  unfold gnF
  rw [dif_pos h]
  exact found_unique _ _ h.choose_spec hF
/-- A machine in memory as a value. -/
def MacVal (w : World) (v : Value) (m : Mac) : Prop := ∃ an cn ab cb, v = .agg #[.int .i64 m.L, .slice an m.nx.length cn, .slice ab m.ac.length cb] ∧ MacAt w an cn ab cb m
def GenD (W : World) (M : Mac) (E : Int) (e : Ending) (w' : World) : Prop :=
  ∃ an cn ab cb, e = .returned (.tuple #[.agg #[.int .i64 M.L, .slice an M.nx.length cn, .slice ab M.ac.length cb], .int .i64 E]) ∧ MacAt w' an cn ab cb M ∧ Below W.heap.size W w'
theorem zero_at (w : World) : MacAt w none 0 none 0 zeroM :=
  ⟨Nat.le_refl _, by unfold maxLen; omega, Nat.le_refl _, by unfold maxLen; omega, fun i hi => absurd hi (Nat.not_lt_zero _), fun i hi => absurd hi (Nat.not_lt_zero _)⟩
theorem gen_det {W w' : World} {E : Int} {L : Nat} {la : Lang} {e : Ending} (h : GenPost W E L la e w') : GenD W (gnM E L la) (gnE E L la) e w' := by
  rcases h with ⟨h0, F, hF, hb, ⟨h64, base, vn, vb, hbase, rfl, hM⟩ | ⟨h64, rfl⟩⟩ | ⟨h0, hb, rfl⟩
  · have e1 := gnF_of hF
    obtain ⟨an, cn, ab, cb, rfl, rfl, hA⟩ := hM.mac
    have em : gnM E L la = macOf L F := by unfold gnM; rw [e1, if_pos ⟨h0, h64⟩]
    have ee : gnE E L la = 0 := by unfold gnE; rw [e1, if_pos h0, if_pos h64]
    rw [em, ee]
    refine ⟨an, cn, ab, cb, ?_, hA, hb⟩
    rw [mac_nx, mac_acl]
    rfl
  · have e1 := gnF_of hF
    have em : gnM E L la = zeroM := by unfold gnM; rw [e1, if_neg (by omega)]
    have ee : gnE E L la = 4 := by unfold gnE; rw [e1, if_pos h0, if_neg (by omega)]
    rw [em, ee]
    exact ⟨none, 0, none, 0, rfl, zero_at _, hb⟩
  · have em : gnM E L la = zeroM := by unfold gnM; rw [if_neg (fun x => h0 x.1)]
    have ee : gnE E L la = E := by unfold gnE; rw [if_neg h0]
    rw [em, ee]
    exact ⟨none, 0, none, 0, rfl, zero_at _, hb⟩
/-- What stands where there was no error. -/
structure GenOK (E : Int) (L : Nat) (la : Lang) : Prop where
  e : E = 0
  fnd : Found (succL L) la (gnF L la)
  le : (gnF L la).length ≤ 64
  m : gnM E L la = macOf L (gnF L la)
theorem gen_good {W w' : World} {E : Int} {L : Nat} {la : Lang} {e : Ending} (h : GenPost W E L la e w') (h0 : gnE E L la = 0) : GenOK E L la := by
  rcases h with ⟨hE, F, hF, hb, hr⟩ | ⟨hE, hb, rfl⟩
  · have e1 := gnF_of hF
    have hle : (gnF L la).length ≤ 64 := by
      unfold gnE at h0
      rw [if_pos hE] at h0
      split at h0
      · assumption
      · cases h0
    exact ⟨hE, by rw [e1]; exact hF, hle, by unfold gnM; rw [if_pos ⟨hE, hle⟩]⟩
  · unfold gnE at h0
    rw [if_neg hE] at h0
    exact absurd h0 hE
section
variable {E : Int} {L : Nat} {la : Lang} (h : GenOK E L la)
include h
theorem GenOK.ok (h1 : 1 ≤ L) (h6 : L ≤ 6) : MacOK (gnM E L la) := by rw [h.m]; exact form_ok h.fnd h1 h6 h.le
theorem GenOK.mL : (gnM E L la).L = L := by rw [h.m]; rfl
theorem GenOK.lang (hg : Good L la) : langM (gnM E L la) = la := by rw [h.m]; exact form_langM h.fnd hg
theorem GenOK.e0 : gnE E L la = 0 := by unfold gnE; rw [if_pos h.e, if_pos h.le]
end
/-- Two calls that give the plain form of one language give one machine. -/
theorem gn_same {E E' : Int} {L L' : Nat} {la la' : Lang} (hE : E = E') (hL : E = 0 → L = L' ∧ la = la') : gnE E L la = gnE E' L' la' ∧ gnM E L la = gnM E' L' la' := by
  subst hE
  by_cases h : E = 0
  · obtain ⟨rfl, rfl⟩ := hL h
    exact ⟨rfl, rfl⟩
  · refine ⟨by unfold gnE; rw [if_neg h, if_neg h], by unfold gnM; rw [if_neg fun x => h x.1, if_neg fun x => h x.1]⟩
theorem gnE_bad {E : Int} {L : Nat} {la : Lang} (h : gnE E L la ≠ 0) : gnM E L la = zeroM := by
  unfold gnM
  rw [if_neg]
  rintro ⟨h1, h2⟩
  refine h ?_
  unfold gnE
  rw [if_pos h1, if_pos h2]
theorem gnE_four {E : Int} {L : Nat} {la : Lang} (hE : E = 0) (h : gnE E L la ≠ 0) : gnE E L la = 4 := by
  unfold gnE at h ⊢
  rw [if_pos hE] at h ⊢
  split at h
  · exact absurd rfl h
  · rename_i h2
    rw [if_neg h2]
/-- What the machine is that a call without an error gave. -/
structure IsForm (E : Int) (L : Nat) (la : Lang) (M : Mac) : Prop where
  e : E = 0
  ok : 1 ≤ L → L ≤ 6 → MacOK M
  mL : M.L = L
  lang : Good L la → langM M = la
def GenC (W : World) (E : Int) (L : Nat) (la : Lang) (M : Mac) (E' : Int) (e : Ending) (w' : World) : Prop :=
  ∃ an cn ab cb, e = .returned (.tuple #[.agg #[.int .i64 M.L, .slice an M.nx.length cn, .slice ab M.ac.length cb], .int .i64 E']) ∧ MacAt w' an cn ab cb M ∧ Below W.heap.size W w' ∧ (E' = 0 → IsForm E L la M)
theorem gen_calls {f : FuncId} {args : Array Value} {W : World} {E : Int} {L : Nat} {la : Lang} (h : Calls Try.prog f args W (GenPost W E L la)) : Calls Try.prog f args W (GenC W E L la (gnM E L la) (gnE E L la)) := by
  refine h.mono fun e w' hG => ?_
  obtain ⟨an, cn, ab, cb, h1, h2, h3⟩ := gen_det hG
  exact ⟨an, cn, ab, cb, h1, h2, h3, fun h0 => by
    have g := gen_good hG h0
    exact ⟨g.e, fun h1 h6 => g.ok h1 h6, g.mL, fun hg => g.lang hg⟩⟩
/-- One call: its machine and its error as names. -/
theorem gen_pack {f : FuncId} {args : Array Value} {W : World} {E : Int} {L : Nat} {la : Lang} (h : Calls Try.prog f args W (GenPost W E L la)) :
    ∃ M E', Calls Try.prog f args W (GenC W E L la M E') ∧ (E' ≠ 0 → M = zeroM) ∧ (E = 0 → E' ≠ 0 → E' = 4) :=
  ⟨_, _, gen_calls h, gnE_bad, fun h1 h2 => gnE_four h1 h2⟩
end Go.Proofs.Ytmllbemjcfkmjaa
/- The word behind a word of the same length; a word that is said again and again; plainly. -/
namespace Go.Proofs.Ytmllbemjcfkmjaa
set_option linter.unusedSimpArgs false
set_option linter.unusedVariables false

/-- The next word differs first by a greater letter. -/
theorem unr_next {m : Mac} (hOK : MacOK m) (k : Nat) (hk : k ≤ 20) : ∀ s r : Int, 0 ≤ s → s < m.nx.length → 0 ≤ r → r + 1 < cnt m k s →
    ∃ i, i < k ∧ (∀ j, j < i → nth (unr m k s r) j = nth (unr m k s (r + 1)) j) ∧ nth (unr m k s r) i < nth (unr m k s (r + 1)) i := by
  have h6 := hOK.l6
  induction k with
  | zero =>
    intro s r _ _ h0 h1
    have : cnt m 0 s ≤ 1 := by unfold cnt; split <;> omega
    omega
  | succ k ih =>
    intro s r s0 s1 h0 h1
    obtain ⟨a, ha, a1, a2⟩ := ltr_ex m k s r h0 m.L.toNat (by rw [sumS_all]; omega)
    obtain ⟨b, hb, b1, b2⟩ := ltr_ex m k s (r + 1) (by omega) m.L.toNat (by rw [sumS_all]; omega)
    rw [unr_step h6 a1 a2, unr_step h6 b1 b2]
    by_cases e : a = b
    · subst e
      have hst := step_in hOK s0 s1 (a := (a : Int)) (by omega) (by omega)
      rw [Int.toNat_natCast] at hst
      rw [sumS_succ] at b2
      obtain ⟨i, hi, h2, h3⟩ := ih (by omega) (stepM m s a) (r - sumS m k s a) hst.1 hst.2 (by omega) (by omega)
      have e2 : r - sumS m k s a + 1 = r + 1 - sumS m k s a := by omega
      rw [e2] at h2 h3
      refine ⟨i + 1, by omega, fun j hj => ?_, by simpa [nth, List.getD] using h3⟩
      cases j with
      | zero => rfl
      | succ j => have := h2 j (by omega); simpa [nth, List.getD] using this
    · refine ⟨0, by omega, fun j hj => absurd hj (Nat.not_lt_zero j), ?_⟩
      have hab : a < b := by
        rcases Nat.lt_or_ge a b with h | h
        · exact h
        · have := sumS_mono m h6 k s (show b + 1 ≤ a by omega)
          omega
      show (a : Int) < (b : Int)
      omega
def rep (xs : List Int) : Nat → List Int
  | 0 => []
  | t + 1 => rep xs t ++ xs
theorem rep_len (xs : List Int) (t : Nat) : (rep xs t).length = t * xs.length := by
  induction t with
  | zero => simp [rep]
  | succ t ih => rw [rep, List.length_append, ih, Nat.succ_mul]
theorem rep_ok {L : Int} {xs : List Int} (h : WordOK L xs) (t : Nat) (ht : t * xs.length ≤ 20) : WordOK L (rep xs t) := by
  refine ⟨by rw [rep_len]; exact ht, ?_⟩
  induction t with
  | zero => intro i hi; exact absurd hi (Nat.not_lt_zero _)
  | succ t ih =>
    intro i hi
    have ht' : t * xs.length ≤ 20 := Nat.le_trans (Nat.mul_le_mul_right _ (Nat.le_succ t)) ht
    by_cases h2 : i < (rep xs t).length
    · have e : nth (rep xs (t + 1)) i = nth (rep xs t) i := by
        unfold nth
        rw [rep]
        simp [List.getD, List.getElem?_append, h2]
      rw [e]
      exact ih ht' i h2
    · have hi' : i - (rep xs t).length < xs.length := by
        rw [rep, List.length_append] at hi
        omega
      have e : nth (rep xs (t + 1)) i = nth xs (i - (rep xs t).length) := by
        unfold nth
        rw [rep]
        simp [List.getD, List.getElem?_append, h2]
      rw [e]
      exact h.el _ hi'
theorem runF_rep (m : Mac) (xs : List Int) (t : Nat) : runF m (rep xs t) 0 (rep xs t).length = rdS m xs t := by
  have app : ∀ (a b : List Int) (s : Int) (j : Nat), runF m (a ++ b) s (a.length + j) = runF m b (runF m a s a.length) j := by
    intro a b s j
    induction j with
    | zero =>
      show runF m (a ++ b) s a.length = runF m a s a.length
      have := runF_take m (a ++ b) s a.length a.length (Nat.le_refl _)
      rw [List.take_left'] at this
      · exact this.symm
      · rfl
    | succ j ih =>
      rw [← Nat.add_assoc, runF, ih, runF]
      congr 2
      unfold nth
      rw [List.getD, List.getD, List.getElem?_append_right (by omega), Nat.add_sub_cancel_left]
  induction t with
  | zero => rfl
  | succ t ih =>
    rw [rep, List.length_append, app, ih, rdS]
theorem rep_acc {m : Mac} {xs : List Int} (hOK : MacOK m) (hw : WordOK m.L xs) (ha : ∀ k, accM m (rdS m xs (k + 1)) = true) (t : Nat) (ht : (t + 1) * xs.length ≤ 20) :
    accB m (rep xs (t + 1)) = true ∧ wodE m (rep xs (t + 1)) = 0 := by
  have h0 : wodE m (rep xs (t + 1)) = 0 := wodE_zero.2 ⟨hOK, rep_ok hw (t + 1) ht⟩
  refine ⟨?_, h0⟩
  rw [accB_ok h0]
  show accM m (runF m (rep xs (t + 1)) 0 (rep xs (t + 1)).length) = true
  rw [runF_rep]
  exact ha t
end Go.Proofs.Ytmllbemjcfkmjaa
/- 'numbered' returns true for every valid machine, and 'round' for a word that is accepted again and again. -/
namespace Go.Proofs.Ytmllbemjcfkmjaa
open Go.RowKit Go.Maps
set_option linter.unusedSimpArgs false
set_option linter.unusedVariables false

theorem i64_bN {x : Int} (h : (Lit.int .i64 x).wf = true) : -9223372036854775808 ≤ x ∧ x ≤ 9223372036854775807 := by
  simp only [Lit.wf, Bool.and_eq_true, decide_eq_true_eq] at h
  exact h

set_option maxRecDepth 100000 in
set_option maxHeartbeats 4000000 in
theorem numbered_any (m : Mac) (hOK : MacOK m) (a a2 : Option Addr) (cap cap2 : Nat) (n r : Int) (hn : (Lit.int .i64 n).wf = true) (hr : (Lit.int .i64 r).wf = true) (W : World) (hM : MacAt W a cap a2 cap2 m) :
    Calls Try.prog 62 #[.agg #[.int .i64 m.L, .slice a m.nx.length cap, .slice a2 m.ac.length cap2], .int .i64 n, .int .i64 r] W fun e w' => e = .returned (.bool true) ∧ Below W.heap.size W w' := by
  have hb0 := below_alloc W (.cells #[.int .i64 m.L, .slice a m.nx.length cap, .slice a2 m.ac.length cap2] 25)
  have HXm := hid (box_new W (.int .i64 m.L) (.slice a m.nx.length cap) (.slice a2 m.ac.length cap2) 25)
  have HMm := hid (hM.below hb0)
  have HB := hid hb0
  have HOK := hid hOK
  have HC := hid (Count_any m a a2 cap cap2 n _ HMm.out)
  have hn2 := i64_bN hn
  have hr2 := i64_bN hr
  clear hM hb0 hOK hn hr
  by_cases hs : sizE m n = 0
  · obtain ⟨h00, hn0, hn20⟩ := sizE_zero.1 hs
    obtain ⟨N, rfl⟩ : ∃ N : Nat, n = (N : Int) := ⟨n.toNat, by omega⟩
    have hcn := cntN_ok hs
    rw [hs, hcn] at HC
    simp only [Int.toNat_natCast] at HC
    have hcb := cnt_bd m HOK.out.l6 N 0
    have h6 := six_le (k := N) (by omega)
    have hN : N ≤ 20 := by omega
    have HU : Hid (unkE m N (cnt m N 0) = 5 ∧ unkR m N (cnt m N 0) = []) := hid (unk_no hs (.inr (by rw [Int.toNat_natCast]; exact Int.le_refl _)))
    have HUN : Hid (∀ r, 0 ≤ r → r < cnt m N 0 → unkE m N r = 0 ∧ unkR m N r = unr m N 0 r) := hid fun r h0 h1 => by have := unk_ok hs h0 (by rw [Int.toNat_natCast]; exact h1); rwa [Int.toNat_natCast] at this
    have HNX : Hid (∀ r, 0 ≤ r → r + 1 < cnt m N 0 → ∃ i, i < N ∧ (∀ j, j < i → nth (unr m N 0 r) j = nth (unr m N 0 (r + 1)) j) ∧ nth (unr m N 0 r) i < nth (unr m N 0 (r + 1)) i) :=
      hid fun r h0 h1 => unr_next HOK.out N (by omega) 0 r (Int.le_refl _) (by have := HOK.out.n1; omega) h0 h1
    have HUC := hid (fun w hw => Unrank_any m a a2 cap cap2 N (cnt m N 0) w hw)
    generalize hC : cnt m N 0 = C at *
    clear hcn hs h00 hn0 hn20 hC
    go_enter Try.func62, Try.ntmps62
    go_wp2_with fail
    refine HC.out.mono ?_; rintro e w1 ⟨rfl, hb⟩
    clear HC
    replace HXm := hid (HXm.out.below hb)
    replace HMm := hid (HMm.out.below hb)
    replace HB := hid (HB.out.trans (hb.mono HB.out.size))
    clear hb
    have HC := hid (Unrank_any m a a2 cap cap2 N C w1 HMm.out)
    have x0m := HXm.out.c0
    have x1m := HXm.out.c1
    have x2m := HXm.out.c2
    have xlm := HXm.out.lt
    go_wp2_with fail
    refine HC.out.mono ?_
    rintro e w2 ⟨u2, k2, rfl, hI2, hb, hl2, hm2⟩
    clear HC x0m x1m x2m xlm
    replace HXm := hid (HXm.out.below hb)
    replace HMm := hid (HMm.out.below hb)
    replace HB := hid (HB.out.trans (hb.mono HB.out.size))
    rw [HU.out.1, HU.out.2]
    clear HU HUC hI2 hl2 hm2 hb
    by_cases hC0 : C = 0
    · have d : (C == 0) = true := beq_iff_eq.2 hC0
      go_wp2_with fail
      go_ret
      exact ⟨rfl, HB.out⟩
    have d : (C == 0) = false := beq_eq_false_iff_ne.2 hC0
    have hCp : 0 < C := by omega
    have w1' : IntKind.u64.wrap C = C := by simp [IntKind.wrap, IntKind.signed, IntKind.bits]; omega
    have x0m := HXm.out.c0
    have x1m := HXm.out.c1
    have x2m := HXm.out.c2
    have xlm := HXm.out.lt
    go_wp2_with fail
    have hu0 : 0 ≤ IntKind.u64.wrap r := by simp [IntKind.wrap, IntKind.signed, IntKind.bits]; omega
    have q0 : 0 ≤ (IntKind.u64.wrap r).tmod C := Int.tmod_nonneg _ hu0
    have q1 : (IntKind.u64.wrap r).tmod C < C := Int.tmod_lt_of_pos _ hCp
    generalize (IntKind.u64.wrap r).tmod C = q at *
    have hwq : wrap64 q = q := by unfold wrap64; omega
    rw [hwq]
    clear hu0 hwq w1' d x0m x1m x2m xlm
    obtain ⟨e1, e2⟩ := HUN.out q q0 q1
    have HU := hid (Unrank_any m a a2 cap cap2 N q w2 HMm.out)
    unfold IntsE at HU
    rw [e1, e2] at HU
    have hrk := rnk_unk (m := m) (n := N) (r := q) e1
    rw [e2] at hrk
    have HRK := hid hrk
    simp only [unr_len] at HU
    clear e1 e2 hrk
    refine HU.out.mono ?_
    rintro e w3 ⟨a3, k3, rfl, hIw, hb, hl3, hm3⟩
    clear HU
    have HIw := hid hIw
    clear hIw hl3 hm3
    replace HXm := hid (HXm.out.below hb)
    replace HMm := hid (HMm.out.below hb)
    replace HB := hid (HB.out.trans (hb.mono HB.out.size))
    clear hb
    have HC := hid (by have h := Rank_any m a a2 cap cap2 (unr m N 0 q) a3 k3 w3 HMm.out HIw.out (by rw [unr_len]; unfold maxLen; omega); rw [HRK.out.1, HRK.out.2, unr_len] at h; exact h)
    have x0m := HXm.out.c0
    have x1m := HXm.out.c1
    have x2m := HXm.out.c2
    have xlm := HXm.out.lt
    go_wp2_with fail
    refine HC.out.mono ?_
    rintro e w4 ⟨rfl, hb⟩
    clear HC x0m x1m x2m xlm
    replace HXm := hid (HXm.out.below hb)
    replace HMm := hid (HMm.out.below hb)
    replace HIw := hid (HIw.out.below hb)
    replace HB := hid (HB.out.trans (hb.mono HB.out.size))
    clear hb HRK
    have x0m := HXm.out.c0
    have x1m := HXm.out.c1
    have x2m := HXm.out.c2
    have xlm := HXm.out.lt
    by_cases hq1 : q + 1 = C
    · have d : (q + 1 == C) = true := beq_iff_eq.2 hq1
      have wq : wrap64 (q + 1) = C := by unfold wrap64; omega
      subst hq1
      go_wp2_with fail
      go_ret
      exact ⟨rfl, HB.out⟩
    obtain ⟨e1, e2⟩ := HUN.out (q + 1) (by omega) (by omega)
    have d : ¬ q + 1 = C := hq1
    have d2 : (q + 1 == C) = false := beq_eq_false_iff_ne.2 hq1
    have HU := hid (Unrank_any m a a2 cap cap2 N (q + 1) w4 HMm.out)
    unfold IntsE at HU
    rw [e1, e2] at HU
    simp only [unr_len] at HU
    obtain ⟨i0, hi0, hi1, hi2⟩ := HNX.out q q0 (by omega)
    have Hi0 := hid hi0
    have Hi1 := hid hi1
    have Hi2 := hid hi2
    clear e1 e2 hi0 hi1 hi2
    go_wp2_with fail
    refine HU.out.mono ?_
    rintro e w5 ⟨a5, k5, rfl, hIv, hb, hl5, hm5⟩
    clear HU d d2 x0m x1m x2m xlm
    replace HXm := hid (HXm.out.below hb)
    replace HMm := hid (HMm.out.below hb)
    replace HIw := hid (HIw.out.below hb)
    replace HB := hid (HB.out.trans (hb.mono HB.out.size))
    have HIv := hid hIv
    clear hIv hb hl5 hm5 HXm HMm HUN HNX
    have Hxl := unr_len m N 0 q
    have Hyl := unr_len m N 0 (q + 1)
    generalize unr m N 0 q = xs at *
    generalize unr m N 0 (q + 1) = ys at *
    have HXL := hid Hxl
    have HYL := hid Hyl
    clear Hxl Hyl
    go_wp2_with fail
    go_loopw [16] (fun v16 w' => ∃ i : Nat, i ≤ i0 ∧ v16 = .int .i64 i ∧ ∃ n, w' = w5.drewN n) (fun v16 _ => N - (intOf v16).toNat)
    case atStart => exact ⟨0, by omega, rfl, 0, rfl⟩
    case round =>
      obtain ⟨i, hi, rfl, nq, rfl⟩ := hrel
      have hi0 := Hi0.out
      have hiN : i < N := by omega
      have hbz : ∀ n, Below W.heap.size W (w5.drewN n) := fun n => below_quiet HB.out
      have Hbz := hid hbz
      obtain ⟨b1, o1, rfl, hb1, c1⟩ := HIw.out i (by rw [HXL.out]; exact hiN)
      obtain ⟨b2, o2, rfl, hb2, c2⟩ := HIv.out i (by rw [HYL.out]; exact hiN)
      have i1 : (0 : Int) ≤ (i : Int) := by omega
      have i2 : (i : Int) < (N : Int) := by omega
      clear hbz
      by_cases he : i = i0
      · subst he
        have h2 := Hi2.out
        generalize nth xs i = x at *
        generalize nth ys i = y at *
        have d1 : ¬ y = x := by omega
        have d2 : x < y := h2
        go_wp2_with fail
        go_quiet (fail)
        go_wp2_with fail
        go_quiet (fail)
        go_wp2_with fail
        go_ret
        exact ⟨rfl, by first | exact Hbz.out _ | exact below_quiet (Hbz.out _) | exact below_quiet (below_quiet (Hbz.out _))⟩
      · have h1 := Hi1.out i (by omega)
        have hlt : i < i0 := by omega
        rw [h1] at c1
        clear h1
        generalize nth ys i = y at *
        go_wp2_with fail
        go_quiet (fail)
        go_wp2_with fail
        go_roundw
        case rel => exact ⟨i + 1, by omega, by go_num, _, rfl⟩
        case measure => simp [intOf]; omega
  · have d1 : (sizE m n == 0) = false := beq_eq_false_iff_ne.2 hs
    have d2 : (sizE m n != 0) = true := by rw [bne, d1]; rfl
    clear hs
    go_enter Try.func62, Try.ntmps62
    go_wp2_with fail
    refine HC.out.mono ?_; rintro e w1 ⟨rfl, hb1⟩
    have hz := HB.out.trans (hb1.mono HB.out.size)
    clear hb1
    go_wp2_with fail
    go_ret
    exact ⟨rfl, hz⟩
end Go.Proofs.Ytmllbemjcfkmjaa
/- 'round' returns true for a word that a machine accepts again and again. -/
namespace Go.Proofs.Ytmllbemjcfkmjaa
open Go.RowKit Go.Maps
set_option linter.unusedSimpArgs false
set_option linter.unusedVariables false

def lenV : Value → Nat
  | .slice _ n _ => n
  | _ => 0
theorem addr_add (b o j : Nat) : (⟨b, o, none⟩ : Addr).add j = ⟨b, o + j, none⟩ := by unfold Addr.add; split <;> simp_all

set_option maxRecDepth 100000 in
set_option maxHeartbeats 4000000 in
theorem round_any (m : Mac) (hOK : MacOK m) (a a2 : Option Addr) (cap cap2 : Nat) (xs : List Int) (ax : Option Addr) (cx : Nat) (W : World) (hM : MacAt W a cap a2 cap2 m) (hI : IntsAt W ax xs) (hw : WordOK m.L xs) (hacc : ∀ k, accM m (rdS m xs (k + 1)) = true) :
    Calls Try.prog 63 #[.agg #[.int .i64 m.L, .slice a m.nx.length cap, .slice a2 m.ac.length cap2], .slice ax xs.length cx] W fun e w' => e = .returned (.bool true) ∧ Below W.heap.size W w' := by
  have hb0 := below_alloc W (.cells #[.int .i64 m.L, .slice a m.nx.length cap, .slice a2 m.ac.length cap2] 25)
  have HX := hid (box_new W (.int .i64 m.L) (.slice a m.nx.length cap) (.slice a2 m.ac.length cap2) 25)
  have HM := hid (hM.below hb0)
  have HI := hid (hI.below hb0)
  have HB := hid hb0
  have HA := hid (fun t h => rep_acc hOK hw hacc t h)
  have hx20 := hw.l20
  clear hM hI hb0 hw hacc hOK
  obtain ⟨i0, hi0, hz0, hz1, hz2⟩ := info_parts info3
  by_cases h0 : xs.length = 0
  · have e : xs = [] := List.eq_nil_of_length_eq_zero h0
    subst e
    go_enter Try.func63, Try.ntmps63
    go_wp2_with fail
    go_loopw [5, 6, 7] (fun v5 v6 v7 w' => w' = W.alloc (.cells #[.int .i64 m.L, .slice a m.nx.length cap, .slice a2 m.ac.length cap2] 25)) (fun _ _ _ _ => 0)
    case atStart => rfl
    case round =>
      obtain rfl := hrel
      have d : decide ((0 : Int) < (([] : List Int).length : Int)) = false := by simp
      go_wp2_with fail
      go_ret
      exact ⟨rfl, HB.out⟩
  · have hpos : 0 < xs.length := by omega
    have d0 : (0 : Int) < (xs.length : Int) := by omega
    generalize hV : W.alloc (.cells #[.int .i64 m.L, .slice a m.nx.length cap, .slice a2 m.ac.length cap2] 25) = V at *
    have hVs : V.heap.size = W.heap.size + 1 := by rw [← hV]; simp
    have HV := hid hV
    clear hV
    obtain ⟨bx, ox, rfl, hbx, _⟩ := HI.out 0 hpos
    go_enter Try.func63, Try.ntmps63
    go_wp2_with fail
    rw [HV.out]
    go_loopw [5, 6, 7] (fun v5 v6 v7 w' => ∃ t : Nat, t * xs.length ≤ 20 ∧ w'.ownsRow V.heap.size 3 1 v5 (t * xs.length) ((rep xs t).map (Value.int .i64)) ∧ Below V.heap.size V w') (fun v5 _ _ _ => 40 - lenV v5)
    case atStart => exact ⟨0, by omega, by rw [Nat.zero_mul]; exact World.ownsRow_nil _ _ _ _, Below.refl _ _⟩
    case round =>
      obtain ⟨t, ht, hown, hb⟩ := hrel
      obtain ⟨al, kl, el⟩ := row_shape hown
      subst el
      by_cases hgo : (t + 1) * xs.length ≤ 20
      · have hs1 : (t + 1) * xs.length = t * xs.length + xs.length := Nat.succ_mul _ _
        have d1 : ((t * xs.length : Nat) : Int) + (xs.length : Int) ≤ 20 := by omega
        have HXr := hid (HX.out.below hb)
        have HIr := hid (HI.out.below hb)
        have HMr := hid (HM.out.below hb)
        have hsz := hb.size
        have Hacc := hid (HA.out t hgo)
        have Hown := hid hown
        have Hb := hid hb
        have Hs1 := hid hs1
        clear hown hb hs1 hgo
        generalize hn : t * xs.length = n at *
        have Hn := hid hn
        clear hn
        go_wp2_with (at_builtin; go_loud (refine wpList_append_own_at (o := ⟨some 21, _, _, _, _, _⟩) _ rfl _ _ 33 rfl V.heap.size 3 i0 (.int .i64 0) 1 8 Try.underlying33 hi0 hz0 hz1 hz2 rfl (by decide) _ _ _ rfl Hown.out ⟨bx, ox, none⟩ xs.length cx (xs.map (Value.int .i64)) rfl (by simp) (ints_news HIr.out) (ints_one xs) (by unfold maxLen; omega) (by omega) (by omega) ?_); intro v' w6 hown6 hgrow6 _ hat6; have hXX := HX.out.below (Hb.out.grown hgrow6 (by omega) (fun k hk => (Hown.out.lt k hk).1)); have y0 := hXX.c0; have y1 := hXX.c1; have y2 := hXX.c2; have yl := hXX.lt; clear hXX)
        rw [show (rep xs t).map (Value.int .i64) ++ xs.map (Value.int .i64) = (rep xs (t + 1)).map (Value.int .i64) by rw [rep, List.map_append]] at hown6
        have hrl : (rep xs (t + 1)).length = n + xs.length := by rw [rep_len, Hs1.out]
        rw [← hrl] at hown6
        have hbl := (Hb.out.grown hgrow6 (by omega) (fun k hk => (Hown.out.lt k hk).1))
        obtain ⟨a6, k6, e6, hI6, _, _⟩ := own_ints hown6
        subst e6
        have HX6 := hid (HX.out.below hbl)
        have HM6 := hid (HM.out.below hbl)
        have Hown6 := hid hown6
        have Hb6 := hid hbl
        have HC := Accepts_any m a a2 cap cap2 (rep xs (t + 1)) a6 k6 w6 HM6.out hI6 (by unfold maxLen; omega)
        rw [Hacc.out.1, Hacc.out.2] at HC
        have HC := hid HC
        have HRL := hid hrl
        rw [hrl] at HC
        rw [hrl]
        have Hd1 := hid d1
        clear hown6 hgrow6 hat6 hbl hI6 Hown Hb HXr HIr HMr Hacc hrl d1
        try go_wp2_with fail
        refine HC.out.mono ?_; rintro e w7 ⟨rfl, hb7⟩
        have hb8 := Hb6.out.trans (hb7.mono Hb6.out.size)
        have ho7 := own_below Hown6.out hb7
        rw [HRL.out] at ho7
        rw [← Hs1.out] at ho7
        have Ho7 := hid ho7
        clear hb7 ho7 y0 y1 y2 yl HC
        go_wp2_with fail
        go_roundw
        case rel => exact ⟨t + 1, by rw [Hs1.out]; have := Hd1.out; omega, by rw [Hs1.out]; have := Ho7.out; rw [Hs1.out] at this; exact this, hb8⟩
        case measure => show 40 - (n + xs.length) < 40 - n; omega
      · have d1 : ¬ ((t * xs.length : Nat) : Int) + (xs.length : Int) ≤ 20 := by have : (t + 1) * xs.length = t * xs.length + xs.length := Nat.succ_mul t xs.length; omega
        have hz := HB.out.trans (hb.mono HB.out.size)
        clear hown hb hgo
        generalize hn : t * xs.length = n at *
        go_wp2_with fail
        go_ret
        exact ⟨rfl, hz⟩
end Go.Proofs.Ytmllbemjcfkmjaa
