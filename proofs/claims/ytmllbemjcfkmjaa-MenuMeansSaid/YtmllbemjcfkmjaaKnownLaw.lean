/- The plain form of a machine whose states are told apart by a few words; the two machines of the chapter's examples; plainly. -/
import Derived.Test.YtmllbemjcfkmjaaRankLaw
import Derived.Test.YtmllbemjcfkmjaaApart
namespace Go.Proofs.Ytmllbemjcfkmjaa
open Go.RowKit
set_option linter.unusedSimpArgs false
set_option linter.unusedVariables false

section
variable {α β : Type} [DecidableEq α] [DecidableEq β]
theorem visL_nodup_app (l : List α) : ∀ S : List α, (S ++ l).Nodup → visL S l = S ++ l := by
  induction l with
  | nil => intro S _; simp [visL]
  | cons x l ih =>
    intro S h
    have hx : x ∉ S := by
      intro hm
      have := (List.nodup_append.1 h).2.2 x hm x (by simp)
      exact this rfl
    rw [visL, vis_new S x hx, ih (S ++ [x]) (by simpa using h)]
    simp
theorem nub_self {l : List α} (h : l.Nodup) : nub l = l := by
  have := visL_nodup_app l [] (by simpa using h)
  simpa [nub] using this
theorem idx_map (h : α → β) (S : List α) (x : α) (hinj : ∀ y, y ∈ S → h y = h x → y = x) : idx (S.map h) (h x) = idx S x := by
  induction S with
  | nil => rfl
  | cons y t ih =>
    simp only [List.map_cons, idx]
    by_cases e : y = x
    · subst e; simp
    · rw [if_neg e, if_neg (fun hh => e (hinj y (by simp) hh)), ih fun z hz => hinj z (by simp [hz])]
end
theorem nodup_of_map {α β : Type} (f : α → β) {l : List α} (h : (l.map f).Nodup) : l.Nodup := by
  unfold List.Nodup at *
  rw [List.pairwise_map] at h
  exact h.imp fun hne e => hne (by rw [e])
/-- States that a few words tell apart are the plain form's states. -/
theorem conc {L : Nat} {step : Int → Nat → Int} {ac : Int → Bool} {lo hi : Int} (hA : AutoOK L step lo hi) (i : Nat) (S : List Int) (hS : raw L step i = S) (hi' : S.length ≤ i) (ws : List (List Nat))
    (hw : (S.map fun s => ws.map fun w => laA L step ac s w).Nodup) {F : List Lang} (hF : Found (succL L) (laA L step ac 0) F) :
    F = S.map (laA L step ac) ∧ macOf L F = ⟨L, S.map fun s => (List.range L).map fun a => ((idx S (step s a) : Nat) : Int), S.map ac⟩ := by
  have hE : EndOK L step S := hS ▸ raw_end hA i (by rw [hS]; exact hi')
  have hn : (S.map (laA L step ac)).Nodup := by
    refine nodup_of_map (fun l : Lang => ws.map l) ?_
    rw [List.map_map]
    exact hw
  have e1 : F = S.map (laA L step ac) := by
    rw [found_unique _ _ hF (forms_found (ac := ac) hE), forms_nub hE, nub_self hn]
  refine ⟨e1, ?_⟩
  subst e1
  have hinj : ∀ x, x ∈ S → ∀ y, y ∈ S → laA L step ac y = laA L step ac x → y = x := by
    intro x hx y hy e
    obtain ⟨i, hi, rfl⟩ := List.getElem_of_mem hx
    obtain ⟨j, hj, rfl⟩ := List.getElem_of_mem hy
    have hp := List.pairwise_iff_getElem.1 hn
    rcases Nat.lt_trichotomy i j with h | h | h
    · exact absurd (by rw [List.getElem_map, List.getElem_map]; exact e.symm) (hp i j (by simpa using hi) (by simpa using hj) h)
    · subst h; rfl
    · exact absurd (by rw [List.getElem_map, List.getElem_map]; exact e) (hp j i (by simpa using hj) (by simpa using hi) h)
  have e2 : canNext L (S.map (laA L step ac)) = S.map fun s => (List.range L).map fun a => ((idx S (step s a) : Nat) : Int) := by
    unfold canNext
    rw [List.map_map]
    refine List.map_congr_left fun s hs => ?_
    show canRow L _ (laA L step ac s) = _
    unfold canRow
    refine List.map_congr_left fun a ha => ?_
    have ha := List.mem_range.1 ha
    obtain ⟨k, hk, rfl⟩ := List.getElem_of_mem hs
    have hcl := hE.cl k hk a ha
    have eg : S.getD k 0 = S[k] := by simp [List.getD, hk]
    rw [eg] at hcl
    rw [laA_deriv hE _ a ha, idx_map (laA L step ac) S _ fun y hy => hinj _ hcl y hy]
  have e3 : canAcc (S.map (laA L step ac)) = S.map ac := by
    unfold canAcc
    rw [List.map_map]
    rfl
  unfold macOf
  rw [e2, e3]
def ap22S : List Int := [0, 1, 2, -1]
def ap32S : List Int := [0, 1, 2, 3, -1]
def m3 : Mac := ⟨3, [[1, 2, 3], [4, 2, 3], [1, 4, 3], [1, 2, 4], [4, 4, 4]], [true, true, true, true, false]⟩
theorem ap22 {F : List Lang} (hF : Found (succL 2) (apL0 2 2) F) : F.length = 4 := by
  have h := conc (ac := apA) (apS_auto 2 (by omega) (by omega) 2) 4 ap22S (by decide +kernel) (by decide) [[], [0], [1]] (by decide +kernel) hF
  rw [h.1]
  rfl
theorem ap32 {F : List Lang} (hF : Found (succL 3) (apL0 3 2) F) : F.length = 5 ∧ macOf 3 F = m3 := by
  have h := conc (ac := apA) (apS_auto 3 (by omega) (by omega) 2) 5 ap32S (by decide +kernel) (by decide) [[], [0], [1], [2]] (by decide +kernel) hF
  refine ⟨by rw [h.1]; rfl, ?_⟩
  rw [h.2]
  have e : (ap32S.map fun s => (List.range 3).map fun a => ((idx ap32S (apS 2 s a) : Nat) : Int)) = [[1, 2, 3], [4, 2, 3], [1, 4, 3], [1, 2, 4], [4, 4, 4]] := by decide +kernel
  rw [e]
  rfl
theorem m3_ok : MacOK m3 := ⟨by decide, by decide, by decide, by decide, by decide, by decide, by decide⟩
theorem m3_word : WordOK m3.L [0, 2, 0] := ⟨by decide, by decide⟩
theorem m3_count : cntN m3 3 = 12 ∧ sizE m3 3 = 0 := by
  have h := (sizE_zero (m := m3) (n := 3)).2 ⟨m3_ok, by decide, by decide⟩
  exact ⟨by rw [cntN_ok h]; decide +kernel, h⟩
theorem m3_rank : rnkN m3 [0, 2, 0] = 2 ∧ rnkE m3 [0, 2, 0] = 0 := by
  have h := rnk_ok (m := m3) (xs := [0, 2, 0]) (wodE_zero.2 ⟨m3_ok, m3_word⟩) (by decide +kernel)
  exact ⟨by rw [h.2]; decide +kernel, h.1⟩
end Go.Proofs.Ytmllbemjcfkmjaa
