/- Texts of the menu seat in one: KindLaw, KeyVal, MacBig, Kinds, DocMem, DocPlain, Told, Equal. -/
import Derived.Test.YtmllbemjcfkmjaaGenOne
import Derived.Test.YtmllbemjcfkmjaaKnown
import Derived.Test.YtmllbemjcfkmjaaPlainOut
import Derived.DeepKeys4
import Derived.Test.YtmllbemjcfkmjaaTab
import Derived.Test.YtmllbemjcfkmjaaRank
import Derived.Test.YtmllbemjcfkmjaaRound
/- The document's kinds of states: at the end two states have one kind exactly if they have the same language; its plain form is that of the machine whose states are the kinds; plainly. -/
namespace Go.Proofs.Ytmllbemjcfkmjaa
set_option linter.unusedSimpArgs false
set_option linter.unusedVariables false
set_option linter.unusedSectionVars false

section
variable (N L : Nat) (nx : Nat → Nat → Nat) (acc : Nat → Bool)
/-- What a state does: whether it accepts, and the kinds behind its letters. -/
def rowK (c : Nat → Nat) (i : Nat) : Bool × List Nat := (acc i, (List.range L).map fun a => c (nx i a))
def dI : Nat → Nat → Nat
  | 0 => fun _ => 0
  | k + 1 => fun i => cname (rowK L nx acc (dI k)) N i
def qI (k : Nat) : Nat := (nubN (dI N L nx acc k) N).length
variable {N L nx acc}
theorem rowK_iff (c : Nat → Nat) (i j : Nat) : rowK L nx acc c i = rowK L nx acc c j ↔ acc i = acc j ∧ ∀ a, a < L → c (nx i a) = c (nx j a) := by
  unfold rowK
  rw [Prod.mk.injEq]
  refine and_congr_right fun _ => ⟨fun h a ha => ?_, fun h => List.map_congr_left fun a ha => h a (List.mem_range.1 ha)⟩
  have := congrArg (fun l => l[a]?) h
  simpa [ha] using this
theorem dI_iff (k i j : Nat) (hi : i < N) (hj : j < N) :
    dI N L nx acc (k + 1) i = dI N L nx acc (k + 1) j ↔ acc i = acc j ∧ ∀ a, a < L → dI N L nx acc k (nx i a) = dI N L nx acc k (nx j a) :=
  (cname_eq _ hi hj).trans (rowK_iff _ i j)
theorem qI_seen (k : Nat) : (nubN (rowK L nx acc (dI N L nx acc k)) N).length = qI N L nx acc (k + 1) :=
  (nub_alike _ _ N fun i j hi hj => (cname_eq (rowK L nx acc (dI N L nx acc k)) hi hj).symm).1
theorem nub_const (n : Nat) : nubN (fun _ => (0 : Nat)) (n + 1) = [0] := by
  induction n with
  | zero => rfl
  | succ n ih => rw [nubN_succ, ih, vis_mem _ _ (by simp)]
theorem qI_zero (hN : 1 ≤ N) : qI N L nx acc 0 = 1 := by
  obtain ⟨n, rfl⟩ : ∃ n, N = n + 1 := ⟨N - 1, by omega⟩
  show (nubN (fun _ => (0 : Nat)) (n + 1)).length = 1
  rw [nub_const]
  rfl
theorem dI_fin (hlt : ∀ i, i < N → ∀ a, a < L → nx i a < N) (k : Nat) : ∀ i j, i < N → j < N → dI N L nx acc (k + 1) i = dI N L nx acc (k + 1) j → dI N L nx acc k i = dI N L nx acc k j := by
  induction k with
  | zero => intro i j hi hj _; rfl
  | succ k ih =>
    intro i j hi hj h
    obtain ⟨h1, h2⟩ := (dI_iff (k + 1) i j hi hj).1 h
    exact (dI_iff k i j hi hj).2 ⟨h1, fun a ha => ih _ _ (hlt i hi a ha) (hlt j hj a ha) (h2 a ha)⟩
theorem qI_mono (hlt : ∀ i, i < N → ∀ a, a < L → nx i a < N) (k : Nat) : qI N L nx acc k ≤ qI N L nx acc (k + 1) := (nub_finer _ _ N (dI_fin hlt k)).1
theorem qI_le (k : Nat) : qI N L nx acc k ≤ N := nubN_le _ _
theorem dI_lt (hN : 1 ≤ N) (k : Nat) : ∀ i, i < N → dI N L nx acc k i < N := by
  intro i hi
  cases k with
  | zero => exact hN
  | succ k => exact Nat.lt_of_lt_of_le (cname_lt (rowK L nx acc (dI N L nx acc k)) hi) (nubN_le _ _)
variable {la : Nat → Lang}
theorem kind_lang (hlt : ∀ i, i < N → ∀ a, a < L → nx i a < N) (hl : LangOK (N := N) (L := L) (nx := nx) (acc := acc) la) (k : Nat) (hq : qI N L nx acc (k + 1) = qI N L nx acc k) (i j : Nat) (hi : i < N) (hj : j < N) :
    dI N L nx acc (k + 1) i = dI N L nx acc (k + 1) j ↔ la i = la j := by
  have hst : ∀ i j, i < N → j < N → dI N L nx acc k i = dI N L nx acc k j → dI N L nx acc (k + 1) i = dI N L nx acc (k + 1) j :=
    (nub_finer (dI N L nx acc (k + 1)) (dI N L nx acc k) N (dI_fin hlt k)).2 hq.symm
  constructor
  · intro e
    have key : ∀ (w : List Nat) i j, i < N → j < N → dI N L nx acc (k + 1) i = dI N L nx acc (k + 1) j → la i w = la j w := by
      intro w
      induction w with
      | nil =>
        intro i j hi hj e
        rw [hl.nil i hi, hl.nil j hj]
        exact ((dI_iff k i j hi hj).1 e).1
      | cons a w ih =>
        intro i j hi hj e
        rw [hl.cons i hi, hl.cons j hj]
        by_cases ha : a < L
        · rw [ih _ _ (hlt i hi a ha) (hlt j hj a ha) (hst _ _ (hlt i hi a ha) (hlt j hj a ha) (((dI_iff k i j hi hj).1 e).2 a ha))]
        · simp [ha]
    exact funext fun w => key w i j hi hj e
  · intro e
    have key : ∀ m i j, i < N → j < N → la i = la j → dI N L nx acc m i = dI N L nx acc m j := by
      intro m
      induction m with
      | zero => intro i j hi hj e; rfl
      | succ m ih =>
        intro i j hi hj e
        refine (dI_iff m i j hi hj).2 ⟨?_, fun a ha => ih _ _ (hlt i hi a ha) (hlt j hj a ha) (funext fun w => ?_)⟩
        · have := congrFun e []
          rwa [hl.nil i hi, hl.nil j hj] at this
        · have := congrFun e (a :: w)
          rw [hl.cons i hi, hl.cons j hj] at this
          simpa [ha] using this
    exact key _ i j hi hj e
/-- At the end the kind of a state is its language's place among the languages. -/
theorem kind_end (hlt : ∀ i, i < N → ∀ a, a < L → nx i a < N) (hl : LangOK (N := N) (L := L) (nx := nx) (acc := acc) la) (k : Nat) (hq : qI N L nx acc (k + 1) = qI N L nx acc k) (i : Nat) (hi : i < N) : dI N L nx acc (k + 1) i = cname la N i := by
  have hk : ∀ i j, i < N → j < N → (rowK L nx acc (dI N L nx acc k) i = rowK L nx acc (dI N L nx acc k) j ↔ la i = la j) := fun i j hi hj => by
    rw [rowK_iff, ← dI_iff k i j hi hj]
    exact kind_lang hlt hl k hq i j hi hj
  exact (nub_alike _ _ N hk).2 i hi
end

/-! ### the machine whose states are the kinds -/
section
variable (N L : Nat) (nx : Nat → Nat → Nat) (acc : Nat → Bool) (la : Nat → Lang)
noncomputable def repK (k : Nat) : Nat := ((List.range N).find? fun i => decide (cname la N i = k)).getD 0
noncomputable def knd (i : Nat) : Int := (cname la N i : Nat)
noncomputable def stepK (k : Int) (a : Nat) : Int := knd N la (nx (repK N la k.toNat) a)
noncomputable def acK (k : Int) : Bool := acc (repK N la k.toNat)
variable {N L nx acc la}
theorem repK_of {i : Nat} (hi : i < N) : repK N la (cname la N i) < N ∧ la (repK N la (cname la N i)) = la i := by
  unfold repK
  cases h : (List.range N).find? fun j => decide (cname la N j = cname la N i) with
  | none =>
    have := List.find?_eq_none.1 h i (List.mem_range.2 hi)
    simp at this
  | some j =>
    have h1 := List.mem_range.1 (List.mem_of_find?_eq_some h)
    have h2 := List.find?_some h
    simp only [decide_eq_true_eq] at h2
    exact ⟨h1, (cname_eq la h1 hi).1 h2⟩
theorem knd_nat (i : Nat) : (knd N la i).toNat = cname la N i := by unfold knd; omega
theorem knd_eq {i j : Nat} (hi : i < N) (hj : j < N) : knd N la i = knd N la j ↔ la i = la j := by
  rw [← cname_eq la hi hj]
  unfold knd
  omega
theorem knd_zero (hN : 1 ≤ N) : knd N la 0 = 0 := by
  have h1 : nubN la 1 <+: nubN la N := nubN_pre la hN
  have h2 : nubN la 1 = [la 0] := rfl
  have h3 : (nubN la N)[0]? = some (la 0) := pre_get h1 (by rw [h2]; rfl)
  have h4 := idx_get (nub_nodup _) h3
  unfold knd cname
  show ((idx (nubN la N) (la 0) : Nat) : Int) = 0
  rw [show idx (nubN la N) (la 0) = 0 from h4]
  rfl
variable (hlt : ∀ i, i < N → ∀ a, a < L → nx i a < N) (hl : LangOK (N := N) (L := L) (nx := nx) (acc := acc) la)
include hl
theorem la_step {i j : Nat} (hi : i < N) (hj : j < N) (e : la i = la j) {a : Nat} (ha : a < L) : la (nx i a) = la (nx j a) := by
  funext w
  have := congrFun e (a :: w)
  rw [hl.cons i hi, hl.cons j hj] at this
  simpa [ha] using this
include hlt
theorem stepK_knd {i : Nat} (hi : i < N) {a : Nat} (ha : a < L) : stepK N nx la (knd N la i) a = knd N la (nx i a) := by
  unfold stepK
  rw [knd_nat]
  obtain ⟨h1, h2⟩ := repK_of (la := la) hi
  exact (knd_eq (hlt _ h1 a ha) (hlt i hi a ha)).2 (la_step hl h1 hi h2 ha)
omit hlt in
theorem acK_knd {i : Nat} (hi : i < N) : acK N acc la (knd N la i) = acc i := by
  unfold acK
  rw [knd_nat]
  obtain ⟨h1, h2⟩ := repK_of (la := la) hi
  rw [← hl.nil _ h1, ← hl.nil i hi, h2]
theorem lang_knd (w : List Nat) : ∀ i, i < N → langA L (stepK N nx la) (acK N acc la) w (knd N la i) = la i w := by
  induction w with
  | nil =>
    intro i hi
    rw [hl.nil i hi]
    exact acK_knd hl hi
  | cons a w ih =>
    intro i hi
    rw [hl.cons i hi]
    show (decide (a < L) && langA L (stepK N nx la) (acK N acc la) w (stepK N nx la (knd N la i) a)) = _
    by_cases ha : a < L
    · rw [stepK_knd hlt hl hi ha, ih _ (hlt i hi a ha)]
    · simp [ha]
theorem laK_knd {i : Nat} (hi : i < N) : laA L (stepK N nx la) (acK N acc la) (knd N la i) = la i := funext fun w => lang_knd hlt hl w i hi
omit hlt hl in
/-- Every number below the number of kinds is one. -/
theorem knd_all {k : Int} (h0 : 0 ≤ k) (h1 : k < ((nubN la N).length : Nat)) : ∃ i, i < N ∧ k = knd N la i := by
  obtain ⟨n, rfl⟩ : ∃ n : Nat, k = n := ⟨k.toNat, by omega⟩
  have hn : n < (nubN la N).length := by omega
  obtain ⟨x, hx⟩ : ∃ x, (nubN la N)[n]? = some x := ⟨_, List.getElem?_eq_getElem hn⟩
  obtain ⟨i, hi, rfl⟩ := (mem_nubN la N x).1 (List.mem_of_getElem? hx)
  refine ⟨i, hi, ?_⟩
  have := idx_get (nub_nodup _) hx
  unfold knd cname
  rw [show idx (nubN la N) (la i) = n from this]
theorem kind_auto (hN : 1 ≤ N) (hN5 : N ≤ 5000) (h1 : 1 ≤ L) (h6 : L ≤ 6) : AutoOK L (stepK N nx la) 0 ((nubN la N).length : Nat) := by
  have hp : 1 ≤ (nubN la N).length := by have := cname_lt la (n := N) (i := 0) (by omega); omega
  have hle := nubN_le la N
  refine ⟨h1, h6, by omega, by omega, by omega, by omega, fun s h0 hs a ha => ?_⟩
  obtain ⟨i, hi, rfl⟩ := knd_all (N := N) (la := la) h0 hs
  rw [stepK_knd hlt hl hi ha]
  have := cname_lt la (hlt i hi a ha)
  unfold knd
  omega
/-- The document's plain form is that of the languages in the order of their finding. -/
theorem doc_form (hN : 1 ≤ N) (hN5 : N ≤ 5000) (h1 : 1 ≤ L) (h6 : L ≤ 6) {S : List Int} (hE : EndOK L (stepK N nx la) S) (hS : ∀ x, x ∈ S → 0 ≤ x ∧ x < ((nubN la N).length : Nat)) :
    ∃ F : List Lang, Found (succL L) (la 0) F ∧ F.length = S.length ∧ (∀ j, j < S.length → (canNext L F).getD j [] = rowA L (stepK N nx la) S j) ∧ canAcc F = S.map (acK N acc la) := by
  have hf := forms_found (ac := acK N acc la) hE
  rw [forms_nub hE] at hf
  have hinj : ∀ x y, x ∈ S → y ∈ S → laA L (stepK N nx la) (acK N acc la) x = laA L (stepK N nx la) (acK N acc la) y → x = y := by
    intro x y hx hy e
    obtain ⟨i, hi, rfl⟩ := knd_all (N := N) (la := la) (hS x hx).1 (hS x hx).2
    obtain ⟨j, hj, rfl⟩ := knd_all (N := N) (la := la) (hS y hy).1 (hS y hy).2
    rw [laK_knd hlt hl hi, laK_knd hlt hl hj] at e
    exact (knd_eq hi hj).2 e
  have hnd : (S.map (laA L (stepK N nx la) (acK N acc la))).Nodup := by
    unfold List.Nodup
    rw [List.pairwise_map]
    exact List.Pairwise.imp_of_mem (fun {a b} ha hb hne e => hne (hinj a b ha hb e)) hE.nd
  rw [nub_self hnd] at hf
  have e0 : laA L (stepK N nx la) (acK N acc la) 0 = la 0 := by
    have := laK_knd hlt hl (show 0 < N by omega)
    rwa [knd_zero hN] at this
  rw [e0] at hf
  refine ⟨_, hf, by simp, fun j hj => ?_, ?_⟩
  · have hg : ((canNext L (S.map (laA L (stepK N nx la) (acK N acc la)))).getD j []) = canRow L (S.map (laA L (stepK N nx la) (acK N acc la))) (laA L (stepK N nx la) (acK N acc la) (S.getD j 0)) := by
      simp [canNext, List.getD, hj]
    rw [hg]
    unfold canRow rowA
    refine List.map_congr_left fun a ha => ?_
    have ha := List.mem_range.1 ha
    rw [laA_deriv hE _ a ha]
    congr 1
    unfold nxA
    exact idx_map _ _ _ fun y hy e => hinj y _ hy (hE.cl j hj a ha) e
  · unfold canAcc
    rw [List.map_map]
    exact List.map_congr_left fun x hx => rfl
end
end Go.Proofs.Ytmllbemjcfkmjaa
/- Maps whose keys are written as structs or arrays: what they hold, as a function of the keys that were met. -/
namespace Go.Proofs.Ytmllbemjcfkmjaa
open Go.RowKit Go.Maps
set_option linter.unusedSimpArgs false
set_option linter.unusedVariables false

section
variable {α : Type} [DecidableEq α]
open Classical in
/-- The numbers of the keys that were met, by the values that they are written as. -/
noncomputable def gE (enc : α → Value) (l : List α) (y : Value) : Option Value := (l.find? fun k => decide (enc k = y)).map fun k => .int .i64 (idx l k : Nat)
variable {enc : α → Value} {l : List α} {D : α → Prop}
theorem gE_nil (y : Value) : gE enc ([] : List α) y = none := rfl
open Classical in
theorem gE_yes (hD : ∀ a b, D a → D b → enc a = enc b → a = b) (hl : ∀ k, k ∈ l → D k) {k : α} (h : k ∈ l) : gE enc l (enc k) = some (.int .i64 (idx l k : Nat)) := by
  unfold gE
  cases hf : l.find? fun k' => decide (enc k' = enc k) with
  | none =>
    have := List.find?_eq_none.1 hf k h
    simp at this
  | some k' =>
    have h1 := List.mem_of_find?_eq_some hf
    have h2 := List.find?_some hf
    simp only [decide_eq_true_eq] at h2
    rw [hD k' k (hl k' h1) (hl k h) h2]
    rfl
open Classical in
theorem gE_no (hD : ∀ a b, D a → D b → enc a = enc b → a = b) (hl : ∀ k, k ∈ l → D k) {k : α} (hk : D k) (h : k ∉ l) : gE enc l (enc k) = none := by
  unfold gE
  cases hf : l.find? fun k' => decide (enc k' = enc k) with
  | none => rfl
  | some k' =>
    have h1 := List.mem_of_find?_eq_some hf
    have h2 := List.find?_some hf
    simp only [decide_eq_true_eq] at h2
    exact absurd (hD k' k (hl k' h1) hk h2 ▸ h1) h
open Classical in
theorem gE_new (hD : ∀ a b, D a → D b → enc a = enc b → a = b) (hl : ∀ k, k ∈ l → D k) {k : α} (hk : D k) (h : k ∉ l) (y : Value) : (if y = enc k then some (.int .i64 (l.length : Nat)) else gE enc l y) = gE enc (l ++ [k]) y := by
  have hl' : ∀ k', k' ∈ l ++ [k] → D k' := fun k' h' => by
    rcases List.mem_append.1 h' with h' | h'
    · exact hl k' h'
    · rw [List.mem_singleton.1 h']; exact hk
  by_cases e : y = enc k
  · subst e
    rw [if_pos rfl, gE_yes hD hl' (by simp), idx_app_new h]
  · rw [if_neg e]
    unfold gE
    rw [List.find?_append]
    cases hf : l.find? fun k' => decide (enc k' = y) with
    | none =>
      have : ([k].find? fun k' => decide (enc k' = y)) = none := List.find?_eq_none.2 fun k' hk' => by
        rw [List.mem_singleton.1 hk']
        simpa using fun h' => e h'.symm
      rw [this]
      rfl
    | some k' =>
      have h1 := List.mem_of_find?_eq_some hf
      simp only [Option.some_or, Option.map_some]
      rw [idx_app_mem h1]
theorem nubG_old {κ : Nat → α} {j : Nat} (h : κ j ∈ nubN κ j) : nubN κ (j + 1) = nubN κ j := by rw [nubN_succ, vis_mem _ _ h]
theorem nubG_new {κ : Nat → α} {j : Nat} (h : κ j ∉ nubN κ j) : nubN κ (j + 1) = nubN κ j ++ [κ j] ∧ idx (nubN κ (j + 1)) (κ j) = (nubN κ j).length := by
  rw [nubN_succ, vis_new _ _ h]
  exact ⟨rfl, idx_app_new h⟩
def namG (κ : Nat → α) (N k j : Nat) : Int := if j < k then (cname κ N j : Nat) else 0
variable {w : World} {b N : Nat} {t : TypeId}
theorem namG_zero (κ : Nat → α) (h : w.rowIs b t N (fun _ => .int .i64 0)) : w.rowIs b t N (rowI (namG κ N 0)) := h.congr fun i hi => by simp [rowI, namG]
theorem namG_step {κ : Nat → α} {k : Nat} (hk : k < N) (h : w.rowIs b t N (rowI (namG κ N k))) : (w.setCell ⟨b, k, none⟩ (.int .i64 (idx (nubN κ (k + 1)) (κ k) : Nat))).rowIs b t N (rowI (namG κ N (k + 1))) := by
  refine (h.set k _).congr fun i hi => ?_
  unfold rowI namG
  by_cases e : i = k
  · subst e
    simp only [if_true, show i < i + 1 by omega]
    rw [cname_more κ (show i < i + 1 by omega) (show i + 1 ≤ N by omega)]
    rfl
  · rw [if_neg e]
    have : (i < k + 1) = (i < k) := propext (by omega)
    simp only [this]
theorem namG_end {κ : Nat → α} (h : w.rowIs b t N (rowI (namG κ N N))) : w.rowIs b t N (rowI (clsN (cname κ N))) := by
  refine h.congr fun i hi => ?_
  unfold rowI namG clsN
  rw [if_pos hi]
end
theorem laid_out : laidOutB Try.prog = true := by kernel_rfl

/-! ### rows of kinds -/
def rkF (b : Bool) (f : Nat → Nat) (a i : Nat) : Value := if i = 0 then .bool b else .int .i64 (if i - 1 < a then (f (i - 1) : Nat) else 0 : Int)
def rkV (k : Bool × List Nat) : Value := .agg #[.bool k.1, .int .i64 (k.2.getD 0 0 : Nat), .int .i64 (k.2.getD 1 0 : Nat), .int .i64 (k.2.getD 2 0 : Nat), .int .i64 (k.2.getD 3 0 : Nat), .int .i64 (k.2.getD 4 0 : Nat), .int .i64 (k.2.getD 5 0 : Nat)]
structure RkD (L : Nat) (k : Bool × List Nat) : Prop where
  len : k.2.length = L
  el : ∀ x, x ∈ k.2 → x < 5000
theorem rkV_inj {L : Nat} (h6 : L ≤ 6) : ∀ a b, RkD L a → RkD L b → rkV a = rkV b → a = b := by
  intro a b ha hb h
  unfold rkV at h
  simp only [Value.agg.injEq, Array.mk.injEq, List.cons.injEq, Value.bool.injEq, Value.int.injEq, true_and, and_true, Int.natCast_inj] at h
  obtain ⟨h0, h1⟩ := h
  refine Prod.ext h0 (List.ext_getElem (by rw [ha.len, hb.len]) fun i hi hi' => ?_)
  have hil := ha.len
  have e1 : a.2[i] = a.2.getD i 0 := by simp [List.getD, hi]
  have e2 : b.2[i] = b.2.getD i 0 := by simp [List.getD, hi']
  rw [e1, e2]
  have : i < 6 := by omega
  match i, this with
  | 0, _ => exact h1.1
  | 1, _ => exact h1.2.1
  | 2, _ => exact h1.2.2.1
  | 3, _ => exact h1.2.2.2.1
  | 4, _ => exact h1.2.2.2.2.1
  | 5, _ => exact h1.2.2.2.2.2
theorem wide132 : (match Try.prog.underlying 132 with | some (.array _ _) | some (.struct _) => true | _ => false) = true := by rw [Try.underlying132]
set_option maxRecDepth 100000 in
theorem law132 : Keyed Try.prog 132 := Keyed.of_law (deep_law_laid laid_out (m := 4) (by omega) (of_decide_eq_true (by kernel_rfl)) (by kernel_rfl) wide132)
theorem cells132 : Try.prog.cellsOf 132 = 7 := by kernel_rfl
theorem cells130 : Try.prog.cellsOf 130 = 6 := by kernel_rfl
theorem cells3 : Try.prog.cellsOf 3 = 1 := by kernel_rfl
theorem cells4 : Try.prog.cellsOf 4 = 1 := by kernel_rfl
theorem ktype132 : Try.prog.keyType 132 = true := by kernel_rfl
theorem types_size : ∃ n, Try.prog.types.size = n + 3 := ⟨Try.prog.types.size - 3, by have : 3 ≤ Try.prog.types.size := of_decide_eq_true (by kernel_rfl); omega⟩
theorem lits3 (d : Nat) (x : Int) (hx : (Lit.int .i64 x).wf = true) : Try.prog.keyLits (d + 1) 3 [.int .i64 x] = some [.int .i64 x] := by
  unfold Program.keyLits
  rw [Try.underlying3]
  simp [hx]
theorem lits4 (d : Nat) (b : Bool) : Try.prog.keyLits (d + 1) 4 [.bool b] = some [.bool b] := by
  unfold Program.keyLits
  rw [Try.underlying4]
theorem lits130 (d : Nat) (x0 x1 x2 x3 x4 x5 : Int) (h0 : (Lit.int .i64 x0).wf = true) (h1 : (Lit.int .i64 x1).wf = true) (h2 : (Lit.int .i64 x2).wf = true) (h3 : (Lit.int .i64 x3).wf = true) (h4 : (Lit.int .i64 x4).wf = true) (h5 : (Lit.int .i64 x5).wf = true) :
    Try.prog.keyLits (d + 2) 130 [.int .i64 x0, .int .i64 x1, .int .i64 x2, .int .i64 x3, .int .i64 x4, .int .i64 x5] = some [.int .i64 x0, .int .i64 x1, .int .i64 x2, .int .i64 x3, .int .i64 x4, .int .i64 x5] := by
  have e : (List.range 6).mapM (fun i => Try.prog.keyLits (d + 1) 3 (([Value.int .i64 x0, .int .i64 x1, .int .i64 x2, .int .i64 x3, .int .i64 x4, .int .i64 x5].drop (i * 1)).take 1)) = some [[.int .i64 x0], [.int .i64 x1], [.int .i64 x2], [.int .i64 x3], [.int .i64 x4], [.int .i64 x5]] := by
    have hr : List.range 6 = [0, 1, 2, 3, 4, 5] := by decide
    rw [hr]
    simp [List.mapM_cons, lits3, h0, h1, h2, h3, h4, h5]
  unfold Program.keyLits
  rw [Try.underlying130]
  show (if [Value.int .i64 x0, .int .i64 x1, .int .i64 x2, .int .i64 x3, .int .i64 x4, .int .i64 x5].length = Try.prog.cellsOf 130 then _ else _) = _
  rw [if_pos (by rw [cells130]; rfl), cells3, e]
  rfl
theorem key132 {L : Nat} (h6 : L ≤ 6) {k : Bool × List Nat} (hk : RkD L k) : ∃ l, keyOf Try.prog 132 (rkV k) = some l := by
  obtain ⟨b, xs⟩ := k
  have hb : ∀ i, xs.getD i 0 < 5000 := fun i => by
    by_cases hi : i < xs.length
    · have e : xs.getD i 0 = xs[i] := by simp [List.getD, hi]
      rw [e]
      exact hk.el _ (List.getElem_mem hi)
    · have e : xs.getD i 0 = 0 := by simp [List.getD, Nat.not_lt.1 hi]
      rw [e]; omega
  have hw : ∀ i, (Lit.int .i64 ((xs.getD i 0 : Nat) : Int)).wf = true := fun i => by
    have := hb i
    simp only [Lit.wf, Bool.and_eq_true, decide_eq_true_eq]
    have e1 : (-9223372036854775808 : Int) ≤ ((xs.getD i 0 : Nat) : Int) := by omega
    have e2 : ((xs.getD i 0 : Nat) : Int) ≤ 9223372036854775807 := by omega
    exact ⟨e1, e2⟩
  obtain ⟨n, hn⟩ := types_size
  have hl := lits130 (n + 1) _ _ _ _ _ _ (hw 0) (hw 1) (hw 2) (hw 3) (hw 4) (hw 5)
  have hf : (rkV (b, xs)).formed Try.prog 132 = true := by simp [rkV, Value.formed, Try.underlying132, cells132]
  have hgoal : Try.prog.keyLits (n + 3 + 1) 132 (rkV (b, xs)).cells.toList = some [.bool b, .int .i64 (xs.getD 0 0 : Nat), .int .i64 (xs.getD 1 0 : Nat), .int .i64 (xs.getD 2 0 : Nat), .int .i64 (xs.getD 3 0 : Nat), .int .i64 (xs.getD 4 0 : Nat), .int .i64 (xs.getD 5 0 : Nat)] := by
    have hv : (rkV (b, xs)).cells.toList = [.bool b, .int .i64 (xs.getD 0 0 : Nat), .int .i64 (xs.getD 1 0 : Nat), .int .i64 (xs.getD 2 0 : Nat), .int .i64 (xs.getD 3 0 : Nat), .int .i64 (xs.getD 4 0 : Nat), .int .i64 (xs.getD 5 0 : Nat)] := rfl
    rw [hv, show n + 3 + 1 = (n + 2 + 1) + 1 from rfl]
    unfold Program.keyLits
    rw [Try.underlying132]
    refine (if_pos ⟨by rw [cells132]; rfl, by simp⟩).trans ?_
    simp only [List.mapM_cons, List.mapM_nil, cells130, cells4, List.drop_zero, List.take_succ_cons, List.take_zero, List.drop_succ_cons, lits4, hl]
    rfl
  refine ⟨.string (keyBytes [.bool b, .int .i64 (xs.getD 0 0 : Nat), .int .i64 (xs.getD 1 0 : Nat), .int .i64 (xs.getD 2 0 : Nat), .int .i64 (xs.getD 3 0 : Nat), .int .i64 (xs.getD 4 0 : Nat), .int .i64 (xs.getD 5 0 : Nat)]), ?_⟩
  unfold keyOf
  rw [Try.underlying132, ktype132, hf, hn]
  simp only [Bool.and_self, if_true]
  rw [hgoal]
  rfl
theorem rowK_D {N L : Nat} {nx : Nat → Nat → Nat} {acc : Nat → Bool} {c : Nat → Nat} (hN : N ≤ 5000) (hlt : ∀ i, i < N → ∀ a, a < L → nx i a < N) (hc : ∀ i, i < N → c i < N) {i : Nat} (hi : i < N) : RkD L (rowK L nx acc c i) :=
  ⟨by simp [rowK], fun x hx => by
    obtain ⟨a, ha, rfl⟩ := List.mem_map.1 hx
    have := hc _ (hlt i hi a (List.mem_range.1 ha))
    omega⟩
theorem nubN_D {α : Type} [DecidableEq α] {κ : Nat → α} {D : α → Prop} {j : Nat} (h : ∀ i, i < j → D (κ i)) : ∀ k, k ∈ nubN κ j → D k := by
  intro k hk
  obtain ⟨i, hi, rfl⟩ := (mem_nubN κ j k).1 hk
  exact h i hi
theorem rk_step {w : World} {b : Nat} {x : Bool} {f : Nat → Nat} {a : Nat} (h : w.rowIs b 132 7 (rkF x f a)) (v : Int) (hv : v = (f a : Nat)) : (w.setCell ⟨b, 1 + a, none⟩ (.int .i64 v)).rowIs b 132 7 (rkF x f (a + 1)) := by
  subst hv
  refine (h.set (1 + a) _).congr fun i hi => ?_
  unfold rkF
  by_cases e : i = 1 + a
  · subst e
    rw [if_pos rfl, if_neg (by omega), if_pos (by omega), show 1 + a - 1 = a by omega]
  · rw [if_neg e]
    by_cases e0 : i = 0
    · simp [e0]
    · simp only [e0, if_false]
      have : (i - 1 < a + 1) = (i - 1 < a) := propext (by omega)
      simp only [this]
theorem rk_at {L : Nat} {nx : Nat → Nat → Nat} {acc : Nat → Bool} {c : Nat → Nat} {j : Nat} (i : Nat) : rkF (acc j) (fun a => c (nx j a)) L (i + 1) = .int .i64 ((rowK L nx acc c j).2.getD i 0 : Nat) := by
  unfold rkF rowK
  rw [if_neg (by omega), Nat.add_sub_cancel]
  by_cases h : i < L
  · rw [if_pos h]; simp [List.getD, h]
  · rw [if_neg h]; simp [List.getD, Nat.not_lt.1 h]
end Go.Proofs.Ytmllbemjcfkmjaa
/- A machine of any number of states up to 5000, as the document's plain form reads it. -/
namespace Go.Proofs.Ytmllbemjcfkmjaa
open Go.RowKit Go.Maps
set_option linter.unusedSimpArgs false
set_option linter.unusedVariables false

structure MacB (m : Mac) : Prop where
  l1 : 1 ≤ m.L
  l6 : m.L ≤ 6
  n1 : 1 ≤ m.nx.length
  n5 : m.nx.length ≤ 5000
  ac : m.ac.length = m.nx.length
  len : ∀ j, j < m.nx.length → ((rowOf m j).length : Int) = m.L
  el : ∀ j, j < m.nx.length → ∀ a, a < (rowOf m j).length → 0 ≤ nth (rowOf m j) a ∧ nth (rowOf m j) a < m.nx.length
theorem MacOK.big {m : Mac} (h : MacOK m) : MacB m := ⟨h.l1, h.l6, h.n1, by have := h.n64; omega, h.ac, h.len, h.el⟩
noncomputable def nxM (m : Mac) (i a : Nat) : Nat := (stepM m i a).toNat
noncomputable def acM (m : Mac) (i : Nat) : Bool := accM m i
noncomputable def lgM (m : Mac) (i : Nat) : Lang := laA (macL m) (stepM m) (accM m) (i : Int)
section
variable {m : Mac} (h : MacB m)
include h
theorem big_step (i a : Nat) (hi : i < m.nx.length) (ha : a < macL m) : nth (rowOf m i) a = ((nxM m i a : Nat) : Int) ∧ nxM m i a < m.nx.length := by
  have h1 := h.len i hi
  have hL : (macL m : Int) = m.L := by have := h.l1; unfold macL; omega
  have h2 := h.el i hi a (by omega)
  have e : stepM m (i : Int) a = nth (rowOf m i) a := by unfold stepM; rw [Int.toNat_natCast]
  unfold nxM
  rw [e]
  omega
theorem big_lt : ∀ i, i < m.nx.length → ∀ a, a < macL m → nxM m i a < m.nx.length := fun i hi a ha => (big_step h i a hi ha).2
theorem big_lang : LangOK (N := m.nx.length) (L := macL m) (nx := nxM m) (acc := acM m) (lgM m) := by
  refine ⟨fun i hi => rfl, fun i hi a w => ?_⟩
  show langA (macL m) (stepM m) (accM m) (a :: w) (i : Int) = _
  simp only [langA]
  by_cases ha : a < macL m
  · have e : stepM m (i : Int) a = ((nxM m i a : Nat) : Int) := by
      have := (big_step h i a hi ha).1
      rw [← this]
      unfold stepM
      rw [Int.toNat_natCast]
    rw [e]
    rfl
  · simp [ha]
theorem big_L : (macL m : Int) = m.L ∧ 1 ≤ macL m ∧ macL m ≤ 6 := by
  have := h.l1
  have := h.l6
  unfold macL
  omega
end
end Go.Proofs.Ytmllbemjcfkmjaa
/- 'kinds' gives each state the place of its language among the languages of the states. -/
namespace Go.Proofs.Ytmllbemjcfkmjaa
open Go.RowKit Go.Maps
set_option linter.unusedSimpArgs false
set_option linter.unusedVariables false

theorem rk_start (Z : World) (x : Bool) (f : Nat → Nat) : (Z.alloc (.cells #[.bool x, .int .i64 0, .int .i64 0, .int .i64 0, .int .i64 0, .int .i64 0, .int .i64 0] 132)).rowIs Z.heap.size 132 7 (rkF x f 0) := by
  refine World.rowIs_alloc Z #[.bool x, .int .i64 0, .int .i64 0, .int .i64 0, .int .i64 0, .int .i64 0, .int .i64 0] 132 _ fun i hi => ?_
  have : i < 7 := hi
  match i, this with
  | 0, _ => rfl
  | 1, _ => rfl
  | 2, _ => rfl
  | 3, _ => rfl
  | 4, _ => rfl
  | 5, _ => rfl
  | 6, _ => rfl

set_option maxRecDepth 100000 in
set_option maxHeartbeats 4000000 in
theorem kinds_any (m : Mac) (a a2 : Option Addr) (cap cap2 : Nat) (W : World) (hM : MacAt W a cap a2 cap2 m) (hB : MacB m) :
    Calls Try.prog 120 #[.agg #[.int .i64 m.L, .slice a m.nx.length cap, .slice a2 m.ac.length cap2]] W fun e w' => ∃ g, W.heap.size ≤ g ∧ e = .returned (.slice (some ⟨g, 0, none⟩) m.nx.length m.nx.length) ∧ w'.rowIs g 3 m.nx.length (rowI (clsN (cname (lgM m) m.nx.length))) ∧ Below W.heap.size W w' := by
  have hb0 := below_alloc W (.cells #[.int .i64 m.L, .slice a m.nx.length cap, .slice a2 m.ac.length cap2] 25)
  have HM := hid (hM.below hb0)
  have HBz := hid hb0
  have h5 := hB.n5
  have hn1 := hB.n1
  have Hac := hid hB.ac
  have HB := hid hB
  clear hM hb0 hB
  obtain ⟨i3, hi3, hy0, hy1, hy2⟩ := info_parts info33
  have hm5 : m.nx.length ≤ maxLen := by unfold maxLen; omega
  go_enter Try.func120, Try.ntmps120
  go_wp2_with (refine wpList_make_int (o := ⟨some 15, _, _, _, _, _⟩) _ rfl _ _ 33 rfl 3 (.int .i64 0) 8 Try.underlying33 info3 rfl .i64 .i64 _ _ m.nx.length rfl rfl rfl rfl (by omega) (by omega) ?_; intro w1 hr1 hz1 hb1)
  generalize hV : W.alloc (.cells #[.int .i64 m.L, .slice a m.nx.length cap, .slice a2 m.ac.length cap2] 25) = V at *
  have HV := hid hV
  have hVs : V.heap.size = W.heap.size + 1 := by rw [← hV]; simp
  clear hV
  rw [hVs] at hr1 hz1 hb1
  have hr2 : w1.rowIs (W.heap.size + 1) 3 m.nx.length (rowI (clsN (dI m.nx.length (macL m) (nxM m) (acM m) 0))) := hr1
  have HVs := hid hVs
  have hq0 : ((qI m.nx.length (macL m) (nxM m) (acM m) 0 : Nat) : Int) = 1 := by rw [qI_zero hn1]; rfl
  clear hr1 hVs hz1
  go_loopw [3, 4, 5, 6, 7, 8, 9, 10, 11] (fun v3 v4 v5 v6 v7 v8 v9 v10 v11 w' => ∃ (κ cb : Nat), v3 = .slice (some ⟨cb, 0, none⟩) m.nx.length m.nx.length ∧ W.heap.size + 1 ≤ cb ∧ v4 = .int .i64 (qI m.nx.length (macL m) (nxM m) (acM m) κ : Nat) ∧ w'.rowIs cb 3 m.nx.length (rowI (clsN (dI m.nx.length (macL m) (nxM m) (acM m) κ))) ∧ Below (W.heap.size + 1) V w') (fun _ v4 _ _ _ _ _ _ _ _ => m.nx.length + 1 - (intOf v4).toNat)
  case atStart => exact ⟨0, W.heap.size + 1, rfl, Nat.le_refl _, by rw [hq0], hr2, hb1⟩
  case round =>
    clear hr2 hb1 hq0
    obtain ⟨κ, cb, rfl, hcb, rfl, q1, hb⟩ := hrel
    obtain ⟨Y, hY⟩ : ∃ Y, Y = wr := ⟨_, rfl⟩
    subst hY
    have hX := box_at (B := W.heap.size + 1) (by rw [HV.out]; exact hb) rfl
    have x1 := hX.c1
    have xl := hX.lt
    have hcbl := q1.lt
    have HBb := hid hb
    clear hX hb
    generalize hck : dI m.nx.length (macL m) (nxM m) (acM m) κ = ck at *
    have Hck := hid hck
    clear hck
    have hmm := @run_makeMap Try.prog
    go_wp2_with (refine wpList_make_int (o := ⟨some 20, _, _, _, _, _⟩) _ rfl _ _ 33 rfl 3 (.int .i64 0) 8 Try.underlying33 info3 rfl .i64 .i64 _ _ m.nx.length rfl rfl rfl rfl (by omega) (by omega) ?_; intro w1 hr1 hz1 hb1)
    clear hmm
    have m1 := (mapOf_new Try.prog 132 Y).below hb1 (by simp)
    have m2 := m1.congr (fun x => (gE_nil (enc := rkV) x).symm)
    rw [show (Y.alloc (.map #[] 0)).heap.size = Y.heap.size + 1 by simp] at hr1 hz1 hb1
    have n1 := namG_zero (rowK (macL m) (nxM m) (acM m) ck) hr1
    have b1 := (below_alloc Y (.map #[] 0)).trans (hb1.mono (by omega))
    clear m1 hr1 hb1 hz1
    go_loopw [7, 8, 9, 10, 11] (fun v7 v8 v9 v10 v11 w' => ∃ j : Nat, j ≤ m.nx.length ∧ v7 = .int .i64 j ∧ MapOf Try.prog 132 w' Y.heap.size (nubN (rowK (macL m) (nxM m) (acM m) ck) j).length (gE rkV (nubN (rowK (macL m) (nxM m) (acM m) ck) j)) ∧ w'.rowIs (Y.heap.size + 1) 3 m.nx.length (rowI (namG (rowK (macL m) (nxM m) (acM m) ck) m.nx.length j)) ∧ Below Y.heap.size Y w') (fun v7 _ _ _ _ _ => m.nx.length - (intOf v7).toNat)
    case atStart => exact ⟨0, by omega, rfl, m2, n1, b1⟩
    case round =>
      clear m2 n1 b1
      obtain ⟨j, hj, rfl, hm, n1, b1⟩ := hrel
      by_cases hlt : j < m.nx.length
      · obtain ⟨Z, hZ⟩ : ∃ Z, Z = wr := ⟨_, rfl⟩
        subst hZ
        have hbz := HBb.out.trans (b1.mono (by omega))
        have hX := box_at (B := W.heap.size + 1) (by rw [HV.out]; exact hbz) rfl
        have x0 := hX.c0
        have x1 := hX.c1
        have x2 := hX.c2
        have xl := hX.lt
        have hMk := HM.out.below (by rw [HVs.out]; exact hbz)
        obtain ⟨b2, o2, rfl, hb2, c2⟩ := hMk.ac j (by rw [Hac.out]; exact hlt)
        have i1 : (0 : Int) ≤ (j : Int) := by omega
        have i2 : (j : Int) < (m.nx.length : Int) := by omega
        have i3 : (j : Int) < (m.ac.length : Int) := by rw [Hac.out]; omega
        have ha : Hid (m.ac.getD j false = acM m j) := hid rfl
        rw [ha.out] at c2
        clear hX hMk
        go_wp2_with fail
        have r0 := rk_start Z (acM m j) (fun a => ck (nxM m j a))
        have bz0 := below_alloc Z (.cells #[.bool (acM m j), .int .i64 0, .int .i64 0, .int .i64 0, .int .i64 0, .int .i64 0, .int .i64 0] 132)
        have Hm := hid hm
        have Hn1 := hid n1
        have Hb1 := hid b1
        have Hbz := hid hbz
        clear c2 x0 x1 x2 xl hm n1 b1 hbz hb2
        go_loopw [9] (fun v9 w' => ∃ c : Nat, c ≤ macL m ∧ v9 = .int .i64 c ∧ w'.rowIs Z.heap.size 132 7 (rkF (acM m j) (fun a => ck (nxM m j a)) c) ∧ Below Z.heap.size Z w') (fun v9 _ => macL m - (intOf v9).toNat)
        case atStart => exact ⟨0, by omega, rfl, r0, bz0⟩
        case round =>
          clear r0 bz0
          obtain ⟨c, hc, rfl, r0, bz0⟩ := hrel
          have hzb := Hbz.out.size
          have hbr := Hbz.out.trans (bz0.mono (by have := Hb1.out.size; have := HVs.out; omega))
          have hX := box_at (B := W.heap.size + 1) (by rw [HV.out]; exact hbr) rfl
          have x0 := hX.c0
          have x1 := hX.c1
          have xl := hX.lt
          have hbl := big_L HB.out
          have hZlt := r0.lt
          clear hX
          by_cases hlc : c < macL m
          · have hMk := HM.out.below (by rw [HVs.out]; exact hbr)
            obtain ⟨b1, o1, rfl, hb1, ra, rc, hc0, r1, r2, hIA⟩ := hMk.nx j hlt
            have hrl := HB.out.len j hlt
            obtain ⟨br, or, rfl, hbr2, cr⟩ := hIA c (by omega)
            have hst := big_step HB.out j c hlt hlc
            rw [hst.1] at cr
            have q2 := (rowIs_below q1 (Hb1.out.trans (bz0.mono Hb1.out.size)) hcbl).cell hst.2
            have hcl2 := (rowIs_below q1 (Hb1.out.trans (bz0.mono Hb1.out.size)) hcbl).lt
            have t1 := rk_step r0 (f := fun a => ck (nxM m j a)) _ rfl
            have z1 := r0.cell (i := 1 + c) (by omega)
            have y1 := r0.frozen (1 + c)
            have hnx := hst.2
            have t2 := bz0.setCell (p := ⟨Z.heap.size, 1 + c, none⟩) (Nat.le_refl _) (.int .i64 (ck (nxM m j c) : Nat))
            unfold rowI clsN at q2
            have H1 := hid t1
            have H2 := hid t2
            have i4 : (0 : Int) ≤ (c : Int) := by omega
            have i5 : (c : Int) < ((rowOf m j).length : Int) := by omega
            have i6 : (0 : Int) ≤ ((nxM m j c : Nat) : Int) := by omega
            have i7 : ((nxM m j c : Nat) : Int) < (m.nx.length : Int) := by omega
            have i8 : (c : Int) < m.L := by omega
            have i9 : (c : Int) < 6 := by omega
            have Hlc := hid hlc
            clear hst hMk hIA r0 t1 t2 bz0 hbr hbl hlc hrl r1 r2
            go_wp2_with fail
            go_roundw
            case rel => exact ⟨c + 1, Hlc.out, by go_num, H1.out, H2.out⟩
            case measure => have := Hlc.out; simp [intOf]; omega
          · obtain rfl : c = macL m := by omega
            have m1 := Hm.out.below bz0 Hm.out.lt
            have q2 := rowIs_below Hn1.out bz0 Hn1.out.lt
            have hlF := q2.lt
            have z1 := q2.cell hlt
            have y1 := q2.frozen j
            unfold rowI at z1
            have b2' := Hb1.out.trans (bz0.mono Hb1.out.size)
            have hDc : ∀ i, i < m.nx.length → ck i < m.nx.length := by rw [← Hck.out]; exact dI_lt hn1 κ
            have hD : ∀ i, i < m.nx.length → RkD (macL m) (rowK (macL m) (nxM m) (acM m) ck i) := fun i hi => rowK_D h5 (big_lt HB.out) hDc hi
            have hts := namG_step (κ := rowK (macL m) (nxM m) (acM m) ck) hlt (w := wr) (b := Y.heap.size + 1) (t := 3)
            have k0 : wr.cell? ⟨Z.heap.size, 0, none⟩ = some (.bool (rowK (macL m) (nxM m) (acM m) ck j).1) := r0.cell (by omega)
            have k1 := r0.cell (i := 1) (by omega)
            have k2 := r0.cell (i := 2) (by omega)
            have k3 := r0.cell (i := 3) (by omega)
            have k4 := r0.cell (i := 4) (by omega)
            have k5 := r0.cell (i := 5) (by omega)
            have k6 := r0.cell (i := 6) (by omega)
            rw [rk_at] at k1 k2 k3 k4 k5 k6
            have hll : ¬ ((macL m : Nat) : Int) < m.L := by omega
            clear r0 bz0 hbr hbl hc hlc hDc
            generalize hκ : rowK (macL m) (nxM m) (acM m) ck = κ' at *
            have Hκ := hid hκ
            clear hκ
            have hinj := rkV_inj (L := macL m) (big_L HB.out).2.2
            have hDn : ∀ k, k ∈ nubN κ' j → RkD (macL m) k := nubN_D fun i hi => hD i (by omega)
            obtain ⟨kl, hkey⟩ := key132 (big_L HB.out).2.2 (hD j hlt)
            have hkv : rkV (κ' j) = .agg #[.bool (κ' j).1, .int .i64 ((κ' j).2.getD 0 0 : Nat), .int .i64 ((κ' j).2.getD 1 0 : Nat), .int .i64 ((κ' j).2.getD 2 0 : Nat), .int .i64 ((κ' j).2.getD 3 0 : Nat), .int .i64 ((κ' j).2.getD 4 0 : Nat), .int .i64 ((κ' j).2.getD 5 0 : Nat)] := rfl
            by_cases hmem : κ' j ∈ nubN κ' j
            · have hl1 := m1.look_yes law132 Try.underlying129 hkey (gE_yes hinj hDn hmem) true
              simp only [if_true] at hl1
              rw [hkv] at hl1
              have hx := nubG_old hmem
              rw [hx] at hts
              have Ht := hid (hts q2)
              have Hx := hid hx
              have Hm1 := hid m1
              clear hts hx q2 hmem hkey hkv hDn hinj hD m1 Hm Hn1
              generalize idx (nubN κ' j) (κ' j) = n at *
              generalize (κ' j).2.getD 0 0 = p0 at *
              generalize (κ' j).2.getD 1 0 = p1 at *
              generalize (κ' j).2.getD 2 0 = p2 at *
              generalize (κ' j).2.getD 3 0 = p3 at *
              generalize (κ' j).2.getD 4 0 = p4 at *
              generalize (κ' j).2.getD 5 0 = p5 at *
              generalize (κ' j).1 = p at *
              go_wp2_with fail
              go_roundw
              case rel => rw [Hκ.out]; exact ⟨j + 1, by omega, by go_num, by rw [Hx.out]; exact Hm1.out.of_block (Below.heap_setCell wr ⟨Y.heap.size + 1, j, none⟩ _ Y.heap.size (by show Y.heap.size ≠ Y.heap.size + 1; omega)), Ht.out, b2'.setCell (p := ⟨Y.heap.size + 1, j, none⟩) (Nat.le_succ _) _⟩
              case measure => simp [intOf]; omega
            · obtain ⟨ex, en⟩ := nubG_new hmem
              have hl1 := m1.look_no law132 Try.underlying129 (zero3 wr) hkey (gE_no hinj hDn (hD j hlt) hmem) true
              simp only [if_true] at hl1
              obtain ⟨w2, hrun, M2, g2, z2⟩ := m1.insert law132 Try.underlying129 (v := .int .i64 ((nubN κ' j).length : Nat)) hkey (gE_no hinj hDn (hD j hlt) hmem)
              have M3 := M2.congr (gE_new hinj hDn (hD j hlt) hmem)
              have hlen : (nubN κ' (j + 1)).length = (nubN κ' j).length + 1 := by rw [ex]; simp
              rw [← ex, ← hlen] at M3
              have q3 := rowIs_map q2 m1 g2 (by omega)
              have z3 := q3.cell hlt
              have y3 := q3.frozen j
              have hlF3 := q3.lt
              unfold rowI at z3
              have b3 := b2'.grown g2 (by have := m1.lt; omega) (fun t ht => by cases ht; exact Nat.le_refl _)
              have hts2 := namG_step (κ := κ') hlt q3
              rw [en] at hts2
              rw [hkv] at hl1 hrun
              have Ht := hid hts2
              have Hm1 := hid M3
              have hl3 := run_len_map (ty := 3) Try.underlying129 m1
              clear hts hts2 q2 q3 hmem hkey hkv hDn hinj hD m1 M2 M3 g2 z2 z1 y1 hlF hlen ex en Hm Hn1
              generalize (nubN κ' j).length = n at *
              generalize (κ' j).2.getD 0 0 = p0 at *
              generalize (κ' j).2.getD 1 0 = p1 at *
              generalize (κ' j).2.getD 2 0 = p2 at *
              generalize (κ' j).2.getD 3 0 = p3 at *
              generalize (κ' j).2.getD 4 0 = p4 at *
              generalize (κ' j).2.getD 5 0 = p5 at *
              generalize (κ' j).1 = p at *
              go_wp2_with fail
              go_roundw
              case rel => rw [Hκ.out]; exact ⟨j + 1, by omega, by go_num, Hm1.out.of_block (Below.heap_setCell w2 ⟨Y.heap.size + 1, j, none⟩ _ Y.heap.size (by show Y.heap.size ≠ Y.heap.size + 1; omega)), Ht.out, b3.setCell (p := ⟨Y.heap.size + 1, j, none⟩) (Nat.le_succ _) _⟩
              case measure => simp [intOf]; omega
      · obtain rfl : j = m.nx.length := by omega
        have hl := run_len_map (ty := 3) Try.underlying129 hm
        have hse : (nubN (rowK (macL m) (nxM m) (acM m) ck) m.nx.length).length = qI m.nx.length (macL m) (nxM m) (acM m) (κ + 1) := by rw [← Hck.out]; exact qI_seen κ
        rw [hse] at hl
        have n2 := namG_end n1
        have n3 : wr.rowIs (Y.heap.size + 1) 3 m.nx.length (rowI (clsN (dI m.nx.length (macL m) (nxM m) (acM m) (κ + 1)))) := by
          rw [← Hck.out] at n2
          exact n2
        have hbr := HBb.out.trans (b1.mono (by omega))
        have hX := box_at (B := W.heap.size + 1) (by rw [HV.out]; exact hbr) rfl
        have x1 := hX.c1
        have xl := hX.lt
        have hmo := qI_mono (acc := acM m) (big_lt HB.out) κ
        have hle := qI_le (N := m.nx.length) (L := macL m) (nx := nxM m) (acc := acM m) (κ + 1)
        have HE := hid (fun h => kind_end (big_lt HB.out) (big_lang HB.out) κ h)
        have HN3 := hid n3
        have Hbr := hid hbr
        have HBV := hid (HBz.out.trans (hbr.mono (by have := HBz.out.size; have := HVs.out; omega)))
        have hYs := b1.size
        clear hm n1 n2 n3 b1 hse hX hbr q1 hcb hcbl
        generalize hp : qI m.nx.length (macL m) (nxM m) (acM m) (κ + 1) = p at *
        generalize hq : qI m.nx.length (macL m) (nxM m) (acM m) κ = q at *
        have HP := hid hp
        have HQ := hid hq
        clear hp hq
        by_cases he : p = q
        · have d : ((p : Int) == (q : Int)) = true := by rw [he]; exact beq_self_eq_true _
          have HE2 := hid (HE.out he)
          clear he HE hmo hle
          go_wp2_with fail
          go_ret
          refine ⟨Y.heap.size + 1, by omega, rfl, HN3.out.congr fun i hi => ?_, HBV.out⟩
          unfold rowI clsN
          rw [HE2.out i hi]
        · have d : ((p : Int) == (q : Int)) = false := beq_eq_false_iff_ne.2 (by omega)
          go_wp2_with fail
          go_roundw
          case rel => exact ⟨κ + 1, Y.heap.size + 1, rfl, by omega, by rw [HP.out], HN3.out, Hbr.out⟩
          case measure => rw [HQ.out]; simp [intOf]; omega
end Go.Proofs.Ytmllbemjcfkmjaa
/- What stands while the document's plain form is written out: one bundle for the loop on states, one for the loop on letters; how each operation carries them. -/
namespace Go.Proofs.Ytmllbemjcfkmjaa
open Go.RowKit Go.Maps
set_option linter.unusedSimpArgs false
set_option linter.unusedVariables false

/-- The states S, the kinds K that have a number, n rows and the answers bs. -/
structure DcO (V : World) (mb bx L n : Nat) (f : Nat → List Int) (S K : List Int) (bs : List Bool) (v5 vn vb : Value) (Q : Nat → Value) (w : World) : Prop where
  bl : Below V.heap.size V w
  ge : V.heap.size ≤ bx
  gm : V.heap.size ≤ mb
  ne : bx ≠ mb
  out : w.rowIs bx 25 3 (outF L vn vb)
  map : MapOf Try.prog 3 w mb K.length (gN K)
  st : w.ownsRow V.heap.size 3 1 v5 S.length (S.map (Value.int .i64))
  nx : w.ownsRow V.heap.size 33 1 vn n ((List.range n).map Q)
  rs : ∀ k, k < n → w.ownsRow V.heap.size 3 1 (Q k) L ((f k).map (Value.int .i64)) ∧ Apart v5 (Q k)
  ac : w.ownsRow V.heap.size 4 1 vb bs.length (bs.map Value.bool)
structure DcJ (V : World) (mb bx L n : Nat) (f : Nat → List Int) (S K : List Int) (bs : List Bool) (v5 vn vb v8 : Value) (Q : Nat → Value) (a : Nat) (r : List Int) (w : World) : Prop where
  O : DcO V mb bx L n f S K bs v5 vn vb Q w
  own8 : w.ownsRow V.heap.size 3 1 v8 a (r.map (Value.int .i64))
  ap : Apart v5 v8
  ap8 : ∀ k, k < n → Apart v8 (Q k)
section
variable {V w w' : World} {mb bx L n a : Nat} {f : Nat → List Int} {S K S' K' : List Int} {bs : List Bool} {v5 vn vb v8 v' : Value} {Q : Nat → Value} {r r' : List Int} {o : Obj}
theorem own_set {B e t b N : Nat} {v : Value} {xs : List Value} {g : Nat → Value} (h : w.ownsRow B e 1 v n xs) (hr : w.rowIs b t N g) (hne : e ≠ t) (i : Nat) (u : Value) : (w.setCell ⟨b, i, none⟩ u).ownsRow B e 1 v n xs :=
  h.kept (but_store (World.grownBy.refl _ (some b)) i u) (by
    cases hv : v.ownBlock with
    | none => exact .inl rfl
    | some g => exact .inr (by rw [← hv]; exact own_row_ne hr h hne))
theorem map_set {b N t : Nat} {g : Nat → Value} {k : Nat} {h' : Value → Option Value} (h : MapOf Try.prog 3 w mb k h') (hne : b ≠ mb) (i : Nat) (u : Value) : MapOf Try.prog 3 (w.setCell ⟨b, i, none⟩ u) mb k h' :=
  h.of_block (Below.heap_setCell w ⟨b, i, none⟩ u mb (fun e => hne e.symm))
theorem mapG_kept {k m : Nat} {g : Value → Option Value} {e B : Nat} {v : Value} {xs : List Value} (h : MapOf Try.prog 3 w mb k g) (ho : w.ownsRow B e 1 v m xs) (hg : (w.alloc o).grownBy w' v.ownBlock) : MapOf Try.prog 3 w' mb k g :=
  (h.grown (World.grownBy_alloc w o none) (by simp)).grown hg (h.own_ne ho)
theorem blG_kept {e m : Nat} {v : Value} {xs : List Value} (h : Below V.heap.size V w) (ho : w.ownsRow V.heap.size e 1 v m xs) (hg : (w.alloc o).grownBy w' v.ownBlock) : Below V.heap.size V w' :=
  (h.alloc h.size o).grown hg (by have := h.size; simp; omega) fun k hk => (ho.lt k hk).1
theorem DcO.below (h : DcO V mb bx L n f S K bs v5 vn vb Q w) (hb : Below w.heap.size w w') : DcO V mb bx L n f S K bs v5 vn vb Q w' :=
  ⟨h.bl.trans (hb.mono h.bl.size), h.ge, h.gm, h.ne, rowIs_below h.out hb h.out.lt, h.map.below hb h.map.lt, own_below h.st hb, own_below h.nx hb, fun k hk => ⟨own_below (h.rs k hk).1 hb, (h.rs k hk).2⟩, own_below h.ac hb⟩
theorem DcJ.below (h : DcJ V mb bx L n f S K bs v5 vn vb v8 Q a r w) (hb : Below w.heap.size w w') : DcJ V mb bx L n f S K bs v5 vn vb v8 Q a r w' :=
  ⟨h.O.below hb, own_below h.own8 hb, h.ap, h.ap8⟩
theorem DcO.inner (h : DcO V mb bx L n f S K bs v5 vn vb Q w) : DcJ V mb bx L n f S K bs v5 vn vb (.slice none 0 0) Q 0 [] w :=
  ⟨h, World.ownsRow_nil _ _ _ _, (apart_nil v5).symm, fun k hk => apart_nil _⟩
theorem DcJ.insert (h : DcJ V mb bx L n f S K bs v5 vn vb v8 Q a r w) (hg : w.grownBy w' (some mb)) (hm : MapOf Try.prog 3 w' mb K'.length (gN K')) : DcJ V mb bx L n f S K' bs v5 vn vb v8 Q a r w' :=
  ⟨⟨h.O.bl.grown hg h.O.bl.size fun k hk => by cases hk; exact h.O.gm, h.O.ge, h.O.gm, h.O.ne, rowIs_map h.O.out h.O.map hg h.O.ne, hm, own_map h.O.st h.O.map hg, own_map h.O.nx h.O.map hg, fun k hk => ⟨own_map (h.O.rs k hk).1 h.O.map hg, (h.O.rs k hk).2⟩, own_map h.O.ac h.O.map hg⟩, own_map h.own8 h.O.map hg, h.ap, h.ap8⟩
theorem DcJ.push (h : DcJ V mb bx L n f S K bs v5 vn vb v8 Q a r w) (hg : (w.alloc o).grownBy w' v5.ownBlock) (ho : w'.ownsRow V.heap.size 3 1 v' S'.length (S'.map (Value.int .i64)))
    (hl : v'.ownBlock = v5.ownBlock ∨ v'.ownBlock = some (w.alloc o).heap.size) : DcJ V mb bx L n f S' K bs v' vn vb v8 Q a r w' :=
  ⟨⟨blG_kept h.O.bl h.O.st hg, h.O.ge, h.O.gm, h.O.ne, row_kept h.O.out h.O.st (by decide) hg, mapG_kept h.O.map h.O.st hg, ho, own_kept h.O.nx hg (own_types h.O.nx h.O.st (by decide)),
    fun k hk => ⟨own_kept (h.O.rs k hk).1 hg (h.O.rs k hk).2, apart_new (h.O.rs k hk).1 (h.O.rs k hk).2 hl⟩, own_kept h.O.ac hg (own_types h.O.ac h.O.st (by decide))⟩,
   own_kept h.own8 hg h.ap, apart_new h.own8 h.ap hl, h.ap8⟩
theorem DcJ.push8 (h : DcJ V mb bx L n f S K bs v5 vn vb v8 Q a r w) (hg : (w.alloc o).grownBy w' v8.ownBlock) (ho : w'.ownsRow V.heap.size 3 1 v' (a + 1) (r'.map (Value.int .i64)))
    (hl : v'.ownBlock = v8.ownBlock ∨ v'.ownBlock = some (w.alloc o).heap.size) : DcJ V mb bx L n f S K bs v5 vn vb v' Q (a + 1) r' w' :=
  ⟨⟨blG_kept h.O.bl h.own8 hg, h.O.ge, h.O.gm, h.O.ne, row_kept h.O.out h.own8 (by decide) hg, mapG_kept h.O.map h.own8 hg, own_kept h.O.st hg h.ap.symm, own_kept h.O.nx hg (own_types h.O.nx h.own8 (by decide)),
    fun k hk => ⟨own_kept (h.O.rs k hk).1 hg (h.ap8 k hk), (h.O.rs k hk).2⟩, own_kept h.O.ac hg (own_types h.O.ac h.own8 (by decide))⟩,
   ho, (apart_new h.O.st h.ap.symm hl).symm, fun k hk => apart_new (h.O.rs k hk).1 (h.ap8 k hk) hl⟩
theorem outG1 (h : w.rowIs bx 25 3 (outF L vn vb)) (x : Value) : (w.setCell ⟨bx, 1, none⟩ x).rowIs bx 25 3 (outF L x vb) := by
  refine (h.set 1 x).congr fun i hi => ?_
  unfold outF
  by_cases e : i = 1
  · subst e; simp
  · simp [e]
theorem outG2 (h : w.rowIs bx 25 3 (outF L vn vb)) (x : Value) : (w.setCell ⟨bx, 2, none⟩ x).rowIs bx 25 3 (outF L vn x) := by
  refine (h.set 2 x).congr fun i hi => ?_
  unfold outF
  by_cases e : i = 2
  · subst e; simp
  · have : i = 0 ∨ i = 1 := by omega
    rcases this with rfl | rfl <;> simp
theorem range_snoc (n : Nat) (Q : Nat → Value) (v : Value) : (List.range (n + 1)).map (fun j => if j = n then v else Q j) = (List.range n).map Q ++ [v] := by
  rw [List.range_succ, List.map_append]
  simp only [List.map_cons, List.map_nil, if_true]
  congr 1
  refine List.map_congr_left fun j hj => ?_
  have := List.mem_range.1 hj
  rw [if_neg (by omega)]
/-- The row goes behind the rows, and these into the machine. -/
theorem DcJ.close (h : DcJ V mb bx L n f S K bs v5 vn vb v8 Q L (f n) w) (hg : (w.alloc o).grownBy w' vn.ownBlock) (ho : w'.ownsRow V.heap.size 33 1 v' (n + 1) ((List.range n).map Q ++ [v8])) :
    DcO V mb bx L (n + 1) f S K bs v5 v' vb (fun k => if k = n then v8 else Q k) (w'.setCell ⟨bx, 1, none⟩ v') := by
  have hout := row_kept h.O.out h.O.nx (by decide) hg
  refine ⟨(blG_kept h.O.bl h.O.nx hg).setCell h.O.ge _, h.O.ge, h.O.gm, h.O.ne, outG1 hout v', map_set (t := 0) (N := 0) (g := fun _ => undef) (mapG_kept h.O.map h.O.nx hg) h.O.ne _ _,
    own_set (own_kept h.O.st hg (own_types h.O.st h.O.nx (by decide))) hout (by decide) _ _, ?_, fun k hk => ⟨?_, ?_⟩, own_set (own_kept h.O.ac hg (own_types h.O.ac h.O.nx (by decide))) hout (by decide) _ _⟩
  · rw [range_snoc]
    exact own_set ho hout (by decide) _ _
  · refine own_set ?_ hout (by decide) _ _
    by_cases e : k = n
    · subst e
      simp only [if_true]
      exact own_kept h.own8 hg (own_types h.own8 h.O.nx (by decide))
    · simp only [e, if_false]
      exact own_kept (h.O.rs k (by omega)).1 hg (own_types (h.O.rs k (by omega)).1 h.O.nx (by decide))
  · by_cases e : k = n
    · subst e
      simp only [if_true]
      exact h.ap
    · simp only [e, if_false]
      exact (h.O.rs k (by omega)).2
theorem DcO.accept (h : DcO V mb bx L n f S K bs v5 vn vb Q w) (x : Bool) (hg : (w.alloc o).grownBy w' vb.ownBlock) (ho : w'.ownsRow V.heap.size 4 1 v' (bs.length + 1) (bs.map Value.bool ++ [.bool x])) :
    DcO V mb bx L n f S K (bs ++ [x]) v5 vn v' Q (w'.setCell ⟨bx, 2, none⟩ v') := by
  have hout := row_kept h.out h.ac (by decide) hg
  refine ⟨(blG_kept h.bl h.ac hg).setCell h.ge _, h.ge, h.gm, h.ne, outG2 hout v', map_set (t := 0) (N := 0) (g := fun _ => undef) (mapG_kept h.map h.ac hg) h.ne _ _,
    own_set (own_kept h.st hg (own_types h.st h.ac (by decide))) hout (by decide) _ _, own_set (own_kept h.nx hg (own_types h.nx h.ac (by decide))) hout (by decide) _ _,
    fun k hk => ⟨own_set (own_kept (h.rs k hk).1 hg (own_types (h.rs k hk).1 h.ac (by decide))) hout (by decide) _ _, (h.rs k hk).2⟩, ?_⟩
  have := own_set ho hout (by decide) 2 v'
  rw [show (bs ++ [x]).length = bs.length + 1 by simp, List.map_append]
  exact this
end
end Go.Proofs.Ytmllbemjcfkmjaa
/- The document's plain form gives back the machine of the languages of a machine's states, in the order of their finding. -/
namespace Go.Proofs.Ytmllbemjcfkmjaa
open Go.RowKit Go.Maps
set_option linter.unusedSimpArgs false
set_option linter.unusedVariables false

noncomputable def stD (m : Mac) : Int → Nat → Int := stepK m.nx.length (nxM m) (lgM m)
noncomputable def acD (m : Mac) : Int → Bool := acK m.nx.length (acM m) (lgM m)
noncomputable def kz (m : Mac) (s : Int) : Int := knd m.nx.length (lgM m) s.toNat
noncomputable def nD (m : Mac) : Nat := (nubN (lgM m) m.nx.length).length
section
variable {m : Mac} (h : MacB m)
include h
theorem doc_auto : AutoOK (macL m) (stD m) 0 (nD m : Nat) := kind_auto (big_lt h) (big_lang h) h.n1 h.n5 (big_L h).2.1 (big_L h).2.2
theorem kz_zero : kz m 0 = 0 := knd_zero h.n1
theorem kz_step {s : Int} (h0 : 0 ≤ s) (h1 : s < m.nx.length) {a : Nat} (ha : a < macL m) : stD m (kz m s) a = kz m ((nxM m s.toNat a : Nat) : Int) := by
  unfold stD kz
  rw [stepK_knd (big_lt h) (big_lang h) (by omega) ha, Int.toNat_natCast]
theorem kz_acc {s : Int} (h0 : 0 ≤ s) (h1 : s < m.nx.length) : acD m (kz m s) = acM m s.toNat := acK_knd (big_lang h) (by omega)
end
theorem raw_take {L : Nat} {step : Int → Nat → Int} {i : Nat} (hi : i < (raw L step i).length) : (raw L step (i + 1)).take (i + 1) = (raw L step i).take i ++ [(raw L step i).getD i 0] := by
  obtain ⟨t, ht⟩ := raw_pre (L := L) (step := step) (show i ≤ i + 1 by omega)
  rw [← ht, List.take_append_of_le_length (by omega), List.take_succ_eq_append_getElem hi]
  simp [List.getD, hi]
/-- The states S stand for the kinds K. -/
structure StK (m : Mac) (S K : List Int) : Prop where
  k : S.map (kz m) = K
  rg : ∀ s, s ∈ S → 0 ≤ s ∧ s < m.nx.length
theorem StK.len {m : Mac} {S K : List Int} (h : StK m S K) : S.length = K.length := by rw [← h.k]; simp
theorem StK.at {m : Mac} {S K : List Int} (h : StK m S K) {i : Nat} (hi : i < S.length) : (0 ≤ nth S i ∧ nth S i < m.nx.length) ∧ K.getD i 0 = kz m (nth S i) := by
  refine ⟨h.rg _ (by simp [nth, List.getD, hi]), ?_⟩
  rw [← h.k]
  simp [nth, List.getD, hi]
theorem StK.snoc {m : Mac} {S K : List Int} (h : StK m S K) {s : Int} (h0 : 0 ≤ s) (h1 : s < m.nx.length) : StK m (S ++ [s]) (K ++ [kz m s]) :=
  ⟨by rw [List.map_append, h.k]; rfl, fun x hx => by
    rcases List.mem_append.1 hx with hx | hx
    · exact h.rg x hx
    · rw [List.mem_singleton.1 hx]; exact ⟨h0, h1⟩⟩
open Classical in
theorem dc_start {V w4 : World} (L : Nat) (f : Nat → List Int) (Q : Nat → Value) (hM : MapOf Try.prog 3 w4 V.heap.size 1 (fun y => if y = .int .i64 0 then some (.int .i64 0) else none)) (hg : (V.alloc (.map #[] 0)).grownBy w4 (some V.heap.size)) (hz : w4.heap.size = V.heap.size + 1) :
    DcO V V.heap.size (V.heap.size + 1 + 1) L 0 f [0] [0] [] (.slice (some ⟨V.heap.size + 1, 0, none⟩) 1 1) (.slice none 0 0) (.slice none 0 0) Q ((w4.alloc (.cells #[.int .i64 0] 3)).alloc (.cells #[.int .i64 L, .slice none 0 0, .slice none 0 0] 25)) := by
  have hb4 : Below V.heap.size V w4 := (below_alloc V _).grown hg (by simp) fun k hk => by cases hk; exact Nat.le_refl _
  have hb5 := hb4.alloc hb4.size (.cells #[.int .i64 0] 3)
  have hb6 := hb5.alloc hb5.size (.cells #[.int .i64 L, .slice none 0 0, .slice none 0 0] 25)
  refine ⟨hb6, by omega, Nat.le_refl _, by omega, ?_, ?_, ?_, World.ownsRow_nil _ _ _ _, fun k hk => absurd hk (Nat.not_lt_zero k), World.ownsRow_nil _ _ _ _⟩
  · have e : (w4.alloc (.cells #[.int .i64 0] 3)).heap.size = V.heap.size + 1 + 1 := by simp [hz]
    rw [← e]
    exact (PlO.start (w4.alloc (.cells #[.int .i64 0] 3)) L (fun _ => []) (fun _ => undef)).out
  · refine MapOf.congr (g := fun y => if y = .int .i64 0 then some (.int .i64 0) else none) ?_ fun x => ?_
    · exact ((hM.grown (World.grownBy_alloc w4 _ none) (by simp)).grown (World.grownBy_alloc _ _ none) (by simp))
    · rw [show gN [0] = gN ([] ++ [(0 : Int)]) from rfl, ← gN_new (S := []) (by simp)]
      have e0 : gN [] x = none := by
        cases x with
        | int k t => cases k <;> simp [gN]
        | _ => rfl
      rw [e0]
      rfl
  · have h5 : (w4.alloc (.cells #[.int .i64 0] 3)).ownsRow V.heap.size 3 1 (.slice (some ⟨V.heap.size + 1, 0, none⟩) 1 1) 1 [.int .i64 0] := by
      refine own_one (B := V.heap.size) (m := V.heap.size + 1) (e := 3) _ (.int .i64 0) ?_ (by omega)
      have := heap_alloc_new w4 (.cells #[.int .i64 0] 3)
      rw [hz] at this
      exact this
    exact h5.alloc _

theorem keep20 {V w w' : World} {mb bx L n : Nat} {f : Nat → List Int} {S K : List Int} {bs : List Bool} {v5 vn vb : Value} {Q : Nat → Value} {o : Obj} (h : DcO V mb bx L n f S K bs v5 vn vb Q w) (hg : (w.alloc o).grownBy w' vb.ownBlock)
    {k i : Nat} {x : Value} (hk : k < V.heap.size ∨ v5.ownBlock = some k ∨ k = bx) (hl : k < w.heap.size) (hc : w.cell? ⟨k, i, none⟩ = some x) : w'.cell? ⟨k, i, none⟩ = some x := by
  have hne : some k ≠ vb.ownBlock := by
    intro e
    rcases hk with hk | hk | hk
    · have := (h.ac.lt k e.symm).1; omega
    · exact own_types h.st h.ac (by decide) k e.symm hk
    · subst hk; exact own_row_ne h.out h.ac (by decide) e.symm
  have hb : w'.heap[k]? = w.heap[k]? := by
    rw [hg.block k (by simp; omega) hne]
    exact Below.heap_alloc _ _ k hl
  rw [World.cell?_of_block (w := w) hb]
  exact hc
theorem doc_mach {V w : World} {mb bx i : Nat} {m : Mac} (hB : MacB m) {S : List Int} {v5 vn vb : Value} {Q : Nat → Value} (hi : i = (raw (macL m) (stD m) i).length)
    (hO : DcO V mb bx (macL m) i (fun j => rowP (macL m) (stD m) j (macL m)) S (raw (macL m) (stD m) i) (((raw (macL m) (stD m) i).take i).map (acD m)) v5 vn vb Q w) :
    ∃ F, Found (succL (macL m)) (lgM m 0) F ∧ F.length = i ∧ MachAt w V.heap.size (macL m) F vn vb := by
  have hE := raw_end (doc_auto hB) i (by omega)
  obtain ⟨F, h1, h2, h3, h4⟩ := doc_form (big_lt hB) (big_lang hB) hB.n1 hB.n5 (big_L hB).2.1 (big_L hB).2.2 hE (fun x hx => raw_in (doc_auto hB) i x hx)
  have h2' : F.length = i := h2.trans hi.symm
  refine ⟨F, h1, h2', Q, by rw [h2']; exact hO.nx, fun k hk => ?_, ?_⟩
  · rw [h3 k (by omega)]
    have := (hO.rs k (by omega)).1
    rw [rowP_rowA i k (by omega) (by omega)] at this
    exact this
  · have := hO.ac
    rw [List.take_of_length_le (by omega)] at this
    rw [h4, h2']
    rw [show ((raw (macL m) (stD m) i).map (acD m)).length = i by simp; exact hi.symm] at this
    exact this

set_option maxRecDepth 100000 in
set_option maxHeartbeats 4000000 in
theorem doc_any (m : Mac) (a a2 : Option Addr) (cap cap2 : Nat) (W : World) (hM : MacAt W a cap a2 cap2 m) (hB : MacB m) :
    Calls Try.prog 107 #[.agg #[.int .i64 m.L, .slice a m.nx.length cap, .slice a2 m.ac.length cap2]] W fun e w' => ∃ F base vn vb, Found (succL (macL m)) (lgM m 0) F ∧ W.heap.size ≤ base ∧ e = .returned (.agg #[.int .i64 m.L, vn, vb]) ∧ MachAt w' base (macL m) F vn vb ∧ Below W.heap.size W w' := by
  have hbA := below_alloc W (.cells #[.int .i64 m.L, .slice a m.nx.length cap, .slice a2 m.ac.length cap2] 25)
  have hbB := below_alloc (W.alloc (.cells #[.int .i64 m.L, .slice a m.nx.length cap, .slice a2 m.ac.length cap2] 25)) (.cells #[.int .i64 0, .slice none 0 0, .slice none 0 0] 25)
  have hsA : (W.alloc (.cells #[.int .i64 m.L, .slice a m.nx.length cap, .slice a2 m.ac.length cap2] 25)).heap.size = W.heap.size + 1 := by simp
  rw [hsA] at hbB
  have hb0 := hbA.trans (hbB.mono (by omega))
  have hr0 := (PlO.start (W.alloc (.cells #[.int .i64 m.L, .slice a m.nx.length cap, .slice a2 m.ac.length cap2] 25)) 0 (fun _ => []) (fun _ => undef)).out
  rw [hsA] at hr0
  have hs0 : ((W.alloc (.cells #[.int .i64 m.L, .slice a m.nx.length cap, .slice a2 m.ac.length cap2] 25)).alloc (.cells #[.int .i64 0, .slice none 0 0, .slice none 0 0] 25)).heap.size = W.heap.size + 2 := by simp
  have HK := hid (kinds_any m a a2 cap cap2 _ (hM.below hb0) hB)
  have HM := hid (hM.below hb0)
  have hbL := (big_L hB).1
  have h6 := (big_L hB).2.2
  have hA := hid (doc_auto hB)
  have hn1 := hB.n1
  have h5 := hB.n5
  have Hac := hid hB.ac
  have HB := hid hB
  have HbB := hid hbB
  have HbA := hid hb0
  have Hr0 := hid hr0
  have Hs0 := hid hs0
  clear hM hB hb0 hbA hbB hsA hr0 hs0
  obtain ⟨i0, hi0, hz0, hz1, hz2⟩ := info_parts info3
  obtain ⟨i3, hi3, hy0, hy1, hy2⟩ := info_parts info33
  obtain ⟨i4, hi4, hw0, hw1, hw2⟩ := info_parts info4
  go_enter Try.func107, Try.ntmps107
  go_wp2_with fail
  refine HK.out.mono ?_
  rintro e V ⟨g, hg, rfl, hk, hb1⟩
  clear HK
  rw [Hs0.out] at hg hb1
  have hVs := hb1.size
  rw [Hs0.out] at hVs
  have HBV := hid (HbB.out.trans (hb1.mono (by omega)))
  have hX := box_at (B := W.heap.size + 1) HBV.out rfl
  have HrV := hid (rowIs_below Hr0.out (hb1.mono (by omega)) (Nat.lt_succ_self _))
  have HMV := hid (HM.out.below (by rw [Hs0.out]; exact hb1))
  have HbV := hid (HbA.out.trans (hb1.mono (by omega)))
  have hk0 : V.cell? ⟨g, 0, none⟩ = some (.int .i64 0) := by
    have := hk.cell (i := 0) (by omega)
    rw [this]
    unfold rowI clsN
    have := kz_zero HB.out
    unfold kz knd at this
    simp at this
    simpa using this
  have hgl := hk.lt
  have i1 : (0 : Int) < (m.nx.length : Int) := by omega
  clear HM HbA HbB Hr0 Hs0 hb1
  generalize (W.alloc (.cells #[.int .i64 m.L, .slice a m.nx.length cap, .slice a2 m.ac.length cap2] 25)).alloc (.cells #[.int .i64 0, .slice none 0 0, .slice none 0 0] 25) = U0 at *
  obtain ⟨w4, hrun, hM4, hg4, hz4⟩ := (mapOf_new Try.prog 3 V).insert law3 Try.underlying114 (x := .int .i64 0) (v := .int .i64 0) (key_int 0 (by decide) (by decide)) rfl
  have hz4' : w4.heap.size = V.heap.size + 1 := by rw [hz4]; simp
  have hX4 := box_at (B := W.heap.size + 1) (HBV.out.trans (((below_alloc V _).grown hg4 (by simp) fun k hk => by cases hk; exact Nat.le_refl _).mono (by omega))) rfl
  have x0 := hX4.c0
  have xl4 := hX4.lt
  have xl := hX.lt
  have hO := dc_start (macL m) (fun j => rowP (macL m) (stD m) j (macL m)) (fun _ => .slice none 0 0) hM4 hg4 hz4'
  rw [hbL] at hO
  have hS0 : StK m [0] (raw (macL m) (stD m) 0) := ⟨by show [kz m 0] = [0]; rw [kz_zero HB.out], fun s hs => by rw [List.mem_singleton.1 hs]; omega⟩
  have HO := hid hO
  have Hk := hid hk
  clear hk hX hX4 hM4 hg4 hz4 hO
  have hmm := @run_makeMap Try.prog
  go_wp2_with fail
  clear hmm hrun x0 xl4 hk0 hz4'
  generalize (w4.alloc (.cells #[.int .i64 0] 3)).alloc (.cells #[.int .i64 m.L, .slice none 0 0, .slice none 0 0] 25) = w5 at *
  go_loopw [5, 7, 8, 9, 10, 11, 12] (fun v5 v7 v8 v9 v10 v11 v12 w' => ∃ (i : Nat) (S : List Int) (vn vb : Value) (Q : Nat → Value), v7 = .int .i64 i ∧ i ≤ (raw (macL m) (stD m) i).length ∧ StK m S (raw (macL m) (stD m) i) ∧ DcO V V.heap.size (V.heap.size + 1 + 1) (macL m) i (fun j => rowP (macL m) (stD m) j (macL m)) S (raw (macL m) (stD m) i) (((raw (macL m) (stD m) i).take i).map (acD m)) v5 vn vb Q w') (fun _ v7 _ _ _ _ _ _ => 5100 - (intOf v7).toNat)
  case atStart => exact ⟨0, [0], _, _, _, rfl, by omega, hS0, HO.out⟩
  case round =>
    clear HO hS0
    obtain ⟨i, S, vn, vb, Q, rfl, hi, hS, hO⟩ := hrel
    have hlS := raw_len hA.out i
    have hSl := hS.len
    have hX := box_at (B := W.heap.size + 1) (HBV.out.trans (hO.bl.mono (by omega))) rfl
    have x0 := hX.c0
    have x1 := hX.c1
    have x2 := hX.c2
    have xl := hX.lt
    obtain ⟨a5, k5, e5⟩ := row_shape hO.st
    by_cases hlt : i < S.length
    · have HO := hid hO
      have E5 := hid e5
      have HS := hid hS
      clear hO hS hX hSl
      subst e5
      have i2 : (i : Int) < (S.length : Int) := by omega
      have hlr : i < (raw (macL m) (stD m) i).length := by rw [← HS.out.len]; exact hlt
      go_wp2_with fail
      go_loopw [5, 8, 9, 10, 11, 12] (fun v5 v8 v9 v10 v11 v12 w' => ∃ (c : Nat) (S : List Int), v9 = .int .i64 c ∧ c ≤ macL m ∧ StK m S (part (macL m) (stD m) i c) ∧ DcJ V V.heap.size (V.heap.size + 1 + 1) (macL m) i (fun j => rowP (macL m) (stD m) j (macL m)) S (part (macL m) (stD m) i c) (((raw (macL m) (stD m) i).take i).map (acD m)) v5 vn vb v8 Q c (rowP (macL m) (stD m) i c) w') (fun _ _ v9 _ _ _ _ => macL m - (intOf v9).toNat)
      case atStart => exact ⟨0, S, rfl, by omega, HS.out, HO.out.inner⟩
      case round =>
        clear HO E5 HS x0 x1 x2 xl hlt i2
        obtain ⟨c, S, rfl, hc, hS, hJ⟩ := hrel
        have hpl := part_len hA.out i c hlr hc
        have hSl := hS.len
        have hX := box_at (B := W.heap.size + 1) (HBV.out.trans (hJ.O.bl.mono (by omega))) rfl
        have x0 := hX.c0
        have x1 := hX.c1
        have x2 := hX.c2
        have xl := hX.lt
        clear hX
        by_cases hlc : c < macL m
        · obtain ⟨hig, hgt⟩ := part_get (macL m) (stD m) i c hlr
          have hiS : i < S.length := by omega
          obtain ⟨⟨s0, s1⟩, hkz⟩ := hS.at hiS
          obtain ⟨a4, k4, e4, h4, _, _⟩ := own_ints hJ.O.st
          obtain ⟨b4, o4, e4', hb4, c4⟩ := h4 i hiS
          rw [e4'] at e4
          subst e4
          obtain ⟨sn, hsn⟩ : ∃ sn : Nat, nth S i = (sn : Int) := ⟨(nth S i).toNat, by omega⟩
          rw [hsn] at c4 s0 s1 hkz
          have hsN : sn < m.nx.length := by omega
          have hMk := HMV.out.below hJ.O.bl
          obtain ⟨b1, o1, rfl, hb1, ra, rc, hc0, r1, r2, hIA⟩ := hMk.nx sn hsN
          have hrl := HB.out.len sn hsN
          obtain ⟨br, or, rfl, hbr2, cr⟩ := hIA c (by omega)
          have hst := big_step HB.out sn c hsN hlc
          rw [hst.1] at cr
          have hkr := rowIs_below Hk.out hJ.O.bl Hk.out.lt
          have kc := hkr.cell hst.2
          have kl := hkr.lt
          have hx : stD m ((raw (macL m) (stD m) i).getD i 0) c = ((cname (lgM m) m.nx.length (nxM m sn c) : Nat) : Int) := by
            have e1 : (raw (macL m) (stD m) i).getD i 0 = kz m (sn : Int) := by
              rw [← hgt, ← hkz]; rfl
            rw [e1, kz_step HB.out (by omega) (by omega) hlc, Int.toNat_natCast]
            unfold kz knd
            rw [Int.toNat_natCast]
          have HP := hid (part_old (macL m) (stD m) i c)
          have HF := hid (part_fresh (macL m) (stD m) i c)
          have HR := hid (rowP_succ (macL m) (stD m) i c)
          rw [hx] at HP HF HR
          have htN := hst.2
          have hcN : cname (lgM m) m.nx.length (nxM m sn c) < 5000 := by have := cname_lt (lgM m) htN; have := nubN_le (lgM m) m.nx.length; omega
          have HSn := hid (hS.snoc (s := ((nxM m sn c : Nat) : Int)) (by omega) (by omega))
          have hkn : kz m ((nxM m sn c : Nat) : Int) = ((cname (lgM m) m.nx.length (nxM m sn c) : Nat) : Int) := by unfold kz knd; rw [Int.toNat_natCast]
          rw [hkn] at HSn
          unfold rowI clsN at kc
          have Hlc := hid hlc
          have HJ := hid hJ
          have HS := hid hS
          have HSl := hid hSl
          have hSb : S.length ≤ 5100 := by omega
          have i3 : (0 : Int) ≤ (c : Int) := by omega
          have i4 : (c : Int) < ((rowOf m sn).length : Int) := by omega
          have i5 : (c : Int) < m.L := by omega
          have i6 : (0 : Int) ≤ (i : Int) := by omega
          have i7 : (i : Int) < (S.length : Int) := by omega
          have i8 : (0 : Int) ≤ (sn : Int) := by omega
          have i9 : (sn : Int) < (m.nx.length : Int) := by omega
          clear hig hgt hkz h4 e4' hMk hrl hst hIA hkr hx hJ hS hlc hkn r1 r2 hsn hSl hpl
          generalize nxM m sn c = t at *
          generalize cname (lgM m) m.nx.length t = x at *
          have j1 : (0 : Int) ≤ (t : Int) := by omega
          have j2 : (t : Int) < (m.nx.length : Int) := by omega
          go_wp2_with fail
          go_quiet (fail)
          have hq := below_quiet (n := nq) (Below.refl wr.heap.size wr)
          have hJ1 := HJ.out.below hq
          have kc1 := (hq.cell (p := ⟨g, t, none⟩) kl).trans kc
          have kl1 : g < (wr.drewN nq).heap.size := by have := hq.size; omega
          clear HJ kc kl hq c4 hb4 hc0 hb1 cr hbr2 x0 x1 x2
          generalize wr.drewN nq = w1 at *
          have hxl : (-9223372036854775808 : Int) ≤ (x : Int) := by omega
          have hxu : (x : Int) ≤ 9223372036854775807 := by omega
          have hVw := hJ1.O.bl.size
          by_cases hs : (x : Int) ∈ part (macL m) (stD m) i c
          · have ex := HP.out hs
            have hlook := hJ1.O.map.look_yes law3 Try.underlying114 (key_int x hxl hxu) (gN_yes hs) true
            simp only [if_true] at hlook
            have hR := HR.out
            rw [ex] at hR
            have HR1 := hid hR
            have Hex := hid ex
            have HJ := hid hJ1
            clear hR ex hJ1 HR HP HF hs HSn
            generalize idx (part (macL m) (stD m) i c) (x : Int) = n at *
            go_wp2_with (at_builtin; go_loud (refine wpList_append_own_at (o := ⟨some 73, _, _, _, _, _⟩) _ rfl _ _ 33 rfl V.heap.size 3 i0 (.int .i64 0) 1 8 Try.underlying33 hi0 hz0 hz1 hz2 rfl (by decide) _ _ _ rfl (HJ.out.own8.alloc _) ⟨w1.heap.size, 0, none⟩ 1 1 [.int .i64 (n : Nat)] rfl rfl (news_one w1 (.int .i64 (n : Nat)) 3).out (by simp [Value.oneCell']) (by unfold maxLen; omega) (by omega) (by simp; omega) ?_); intro v' w6 hown6 hgrow6 _ hat6)
            rw [HR1.out] at hown6
            have hJ6 := HJ.out.push8 hgrow6 hown6 hat6
            clear HJ hgrow6 hown6 hat6
            go_wp2_with fail
            go_roundw
            case rel => exact ⟨c + 1, S, by go_num, Hlc.out, by rw [Hex.out]; exact HS.out, by rw [Hex.out]; exact hJ6⟩
            case measure => have := Hlc.out; simp [intOf]; omega
          · obtain ⟨ef, en⟩ := HF.out hs
            have hlook := hJ1.O.map.look_no law3 Try.underlying114 (zero3 w1) (key_int x hxl hxu) (gN_no hs) true
            simp only [if_true] at hlook
            obtain ⟨w2, hrun2, hM2, hg2, hz9⟩ := hJ1.O.map.insert law3 Try.underlying114 (v := .int .i64 (S.length : Nat)) (key_int x hxl hxu) (gN_no hs)
            rw [HSl.out] at hM2
            have hM3 := hM2.congr (gN_new hs)
            have hlen : (part (macL m) (stD m) i (c + 1)).length = (part (macL m) (stD m) i c).length + 1 := by rw [ef]; simp
            rw [← ef, ← hlen] at hM3
            have HJ2 := hid (hJ1.insert hg2 hM3)
            have HE : Hid (S.map (Value.int .i64) ++ [.int .i64 (t : Nat)] = (S ++ [(t : Int)]).map (Value.int .i64)) := hid (by simp)
            have HSL : Hid (S.length + 1 = (S ++ [(t : Int)]).length) := hid (by simp)
            have hR := HR.out
            rw [en, ← HSl.out] at hR
            have HR1 := hid hR
            have HSn2 := HSn.out
            rw [← ef] at HSn2
            have HS3 := hid HSn2
            have kc2 := hg2.cell kc1 (by simp; omega)
            have kl2 : g < w2.heap.size := by have := hg2.size; omega
            have hV2 := HJ2.out.O.bl.size
            clear hz9 hM2 hg2 hM3 hR hlen ef en HR HP HF hs hJ1 HSn HSn2
            go_wp2_with (first | (at_builtin; go_loud (refine wpList_append_own_at (o := ⟨some 69, _, _, _, _, _⟩) _ rfl _ _ 33 rfl V.heap.size 3 i0 (.int .i64 0) 1 8 Try.underlying33 hi0 hz0 hz1 hz2 rfl (by decide) _ _ _ rfl (HJ2.out.O.st.alloc _) ⟨w2.heap.size, 0, none⟩ 1 1 [.int .i64 (t : Nat)] rfl rfl (news_one w2 (.int .i64 (t : Nat)) 3).out (by simp [Value.oneCell']) (by unfold maxLen; omega) (by omega) (by simp; omega) ?_); intro v3 w3 hown3 hgrow3 _ hat3; rw [HE.out] at hown3; have HJ3 := (hid (HJ2.out.push (S' := S ++ [(t : Int)]) hgrow3 (HSL.out ▸ hown3) hat3)); have hV3 := HJ3.out.O.bl.size; clear hown3 hgrow3 hat3) | (at_builtin; go_loud (refine wpList_append_own_at (o := ⟨some 73, _, _, _, _, _⟩) _ rfl _ _ 33 rfl V.heap.size 3 i0 (.int .i64 0) 1 8 Try.underlying33 hi0 hz0 hz1 hz2 rfl (by decide) _ _ _ rfl (HJ3.out.own8.alloc _) ⟨w3.heap.size, 0, none⟩ 1 1 [.int .i64 (S.length : Nat)] rfl rfl (news_one w3 (.int .i64 (S.length : Nat)) 3).out (by simp [Value.oneCell']) (by unfold maxLen; omega) (by omega) (by simp; omega) ?_); intro v' w6 hown6 hgrow6 _ hat6))
            rw [HR1.out] at hown6
            have hJ6 := HJ3.out.push8 hgrow6 hown6 hat6
            clear HJ2 HJ3 hgrow6 hown6 hat6
            go_wp2_with fail
            go_roundw
            case rel => exact ⟨c + 1, _, by go_num, Hlc.out, HS3.out, hJ6⟩
            case measure => have := Hlc.out; simp [intOf]; omega
        · obtain rfl : c = macL m := by omega
          have hpa := part_all (step := stD m) i hlr
          rw [hpa] at hS hJ
          obtain ⟨a8, k8, e8⟩ := row_shape hJ.own8
          obtain ⟨an, kn, en⟩ := row_shape hJ.O.nx
          obtain ⟨ab, kb, eb⟩ := row_shape hJ.O.ac
          obtain ⟨a4, k4, e4⟩ := row_shape hJ.O.st
          subst e8 en eb e4
          have o1 := hJ.O.out.cell (i := 1) (by omega)
          have hltO := hJ.O.out.lt
          simp only [outF, if_true, if_false, show (1 : Nat) ≠ 0 by omega, ite_true, ite_false] at o1
          have HJ := hid hJ
          have HS := hid hS
          have Hpa := hid hpa
          have hVw := hJ.O.bl.size
          have hgo := (raw_pre (L := macL m) (step := stD m) (show i ≤ i + 1 by omega)).length_le
          have hSl2 : S.length = (raw (macL m) (stD m) (i + 1)).length := hS.len
          have hiS : i < S.length := by omega
          clear hJ hS hpa hSl hSl2 hpl
          go_wp2_with (at_builtin; go_loud (refine wpList_append_own_at (o := ⟨some 78, _, _, _, _, _⟩) _ rfl _ _ 22 rfl V.heap.size 33 i3 (.slice none 0 0) 1 24 Try.underlying22 hi3 hy0 hy1 hy2 rfl (by decide) _ _ _ rfl (HJ.out.O.nx.alloc _) ⟨wr.heap.size, 0, none⟩ 1 1 [.slice a8 (macL m) k8] rfl rfl (news_one wr (.slice a8 (macL m) k8) 33).out (by simp [Value.oneCell']) (by unfold maxLen; omega) (by omega) (by simp; omega) ?_); intro vn' w3 hown3 hgrow3 hj1 hj2; clear hj1 hj2; obtain ⟨an', kn', en'⟩ := row_shape hown3; subst en'; have ho3 := row_kept HJ.out.O.out HJ.out.O.nx (by decide) hgrow3; have o3 := (ho3.cell (i := 1) (by omega)); have y3 := (ho3.frozen 1); have l3 := ho3.lt; simp only [outF, if_true, if_false, show (1 : Nat) ≠ 0 by omega, ite_true, ite_false] at o3; clear ho3 o1)
          have hO2 := HJ.out.close hgrow3 hown3
          clear HJ hgrow3 hown3 o3 y3 l3 x0 x1 x2 xl hltO hVw
          generalize w3.setCell ⟨V.heap.size + 1 + 1, 1, none⟩ (.slice an' (i + 1) kn') = w6 at *
          have hX := box_at (B := W.heap.size + 1) (HBV.out.trans (hO2.bl.mono (by omega))) rfl
          obtain ⟨⟨s0, s1⟩, hkz⟩ := HS.out.at hiS
          obtain ⟨a4', k4', e4, h4, _, _⟩ := own_ints hO2.st
          obtain ⟨b4, o4, e4', hb4, c4⟩ := h4 i hiS
          cases e4
          subst e4'
          obtain ⟨sn, hsn⟩ : ∃ sn : Nat, nth S i = (sn : Int) := ⟨(nth S i).toNat, by omega⟩
          rw [hsn] at c4 s0 s1 hkz
          have hsN : sn < m.nx.length := by omega
          have hMk := HMV.out.below hO2.bl
          obtain ⟨b2, o2, rfl, hb2V, _⟩ := HMV.out.ac sn (by rw [Hac.out]; exact hsN)
          obtain ⟨b2', o2', e2', hb2, c2⟩ := hMk.ac sn (by rw [Hac.out]; exact hsN)
          cases e2'
          rw [show m.ac.getD sn false = acM m sn from rfl] at c2
          have HBS : Hid (((raw (macL m) (stD m) (i + 1)).take (i + 1)).map (acD m) = ((raw (macL m) (stD m) i).take i).map (acD m) ++ [acM m sn]) := hid (by
            rw [raw_take hlr, List.map_append]
            congr 1
            have e1 : (raw (macL m) (stD m) i).getD i 0 = kz m (sn : Int) := by
              rw [← hkz]
              have := pre_get' (raw_pre (L := macL m) (step := stD m) (show i ≤ i + 1 by omega)) hlr
              simp [List.getD, this]
            show [acD m ((raw (macL m) (stD m) i).getD i 0)] = _
            rw [e1, kz_acc HB.out (by omega) (by omega), Int.toNat_natCast])
          have o20 := hO2.out.cell (i := 2) (by omega)
          simp only [outF, if_true, if_false, show (2 : Nat) ≠ 0 by omega, show (2 : Nat) ≠ 1 by omega, ite_true, ite_false] at o20
          have hbl : (((raw (macL m) (stD m) i).take i).map (acD m)).length = i := by simp; omega
          generalize ((raw (macL m) (stD m) i).take i).map (acD m) = bs at *
          have Hbl := hid hbl
          have HO2 := hid hO2
          have xb := hX.lt
          have hxV : W.heap.size < V.heap.size := by omega
          have l20 := hO2.out.lt
          have i6 : (0 : Int) ≤ (i : Int) := by omega
          have i7 : (i : Int) < (S.length : Int) := by omega
          have i8 : (0 : Int) ≤ (sn : Int) := by omega
          have i9 : (sn : Int) < (m.ac.length : Int) := by rw [Hac.out]; omega
          have H20 : Hid (w6.drew.cell? ⟨V.heap.size + 1 + 1, 2, none⟩ = some (.slice ab bs.length kb) ∧ w6.drew.cell? ⟨W.heap.size, 2, none⟩ = some (.slice (some ⟨b2, o2, none⟩) m.ac.length cap2) ∧ w6.drew.cell? ⟨b4, o4 + i, none⟩ = some (.int .i64 (sn : Nat)) ∧ w6.drew.cell? ⟨b2, o2 + sn, none⟩ = some (.bool (acM m sn))) := hid ⟨o20, hX.c2, c4, c2⟩
          have hd : Below w6.heap.size w6 w6.drew := (Below.refl _ _).drew
          have HO6 := hid (HO2.out.below hd)
          have l6 := HO6.out.out.lt
          have hb46 : b4 < w6.drew.heap.size := by have := hd.size; omega
          have hv5 : Value.ownBlock (.slice (some ⟨b4, o4, none⟩) S.length k4) = some b4 := rfl
          clear hO2 hX h4 hMk hsn hkz hbl o20 c4 c2 hd HO2 hb4 hb2 l20 xb
          refine wp_region_but (fun w' => w'.cell? ⟨V.heap.size + 1 + 1, 2, none⟩ = some (.slice ab bs.length kb) ∧ w'.cell? ⟨W.heap.size, 2, none⟩ = some (.slice (some ⟨b2, o2, none⟩) m.ac.length cap2) ∧ w'.cell? ⟨b4, o4 + i, none⟩ = some (.int .i64 (sn : Nat)) ∧ w'.cell? ⟨b2, o2 + sn, none⟩ = some (.bool (acM m sn))) 13 (by kernel_rfl) ?_
          refine but_take (i := 0) (v := (.pointer (some ⟨V.heap.size + 1 + 1, 2, none⟩))) rfl (by kernel_rfl) (by kernel_rfl) (by kernel_rfl) (by kernel_rfl) (fun _ _ _ h => h) (Or.inl ⟨by rfl, ?hy⟩) H20.out ?_
          case hy => intro w hSw; (try dsimp only at hSw); go_simp
          try simp only [Act.put, List.setIfInBounds_toArray, List.set_cons_zero, List.set_cons_succ]
          refine but_take (i := 1) (v := (.slice ab bs.length kb)) rfl (by kernel_rfl) (by kernel_rfl) (by kernel_rfl) (by kernel_rfl) (fun _ _ _ h => h) (Or.inl ⟨by rfl, ?hy⟩) H20.out ?_
          case hy => intro w hSw; (try dsimp only at hSw); go_simp
          try simp only [Act.put, List.setIfInBounds_toArray, List.set_cons_zero, List.set_cons_succ]
          refine but_take (i := 2) (v := (.pointer (some ⟨W.heap.size, 2, none⟩))) rfl (by kernel_rfl) (by kernel_rfl) (by kernel_rfl) (by kernel_rfl) (fun _ _ _ h => h) (Or.inl ⟨by rfl, ?hy⟩) H20.out ?_
          case hy => intro w hSw; (try dsimp only at hSw); go_simp
          try simp only [Act.put, List.setIfInBounds_toArray, List.set_cons_zero, List.set_cons_succ]
          refine but_take (i := 3) (v := (.slice (some ⟨b2, o2, none⟩) m.ac.length cap2)) rfl (by kernel_rfl) (by kernel_rfl) (by kernel_rfl) (by kernel_rfl) (fun _ _ _ h => h) (Or.inl ⟨by rfl, ?hy⟩) H20.out ?_
          case hy => intro w hSw; (try dsimp only at hSw); go_simp
          try simp only [Act.put, List.setIfInBounds_toArray, List.set_cons_zero, List.set_cons_succ]
          refine but_take (i := 4) (v := (.slice (some ⟨b4, o4, none⟩) S.length k4)) rfl (by kernel_rfl) (by kernel_rfl) (by kernel_rfl) (by kernel_rfl) (fun _ _ _ h => h) (Or.inl ⟨by rfl, ?hy⟩) H20.out ?_
          case hy => intro w hSw; (try dsimp only at hSw); go_simp
          try simp only [Act.put, List.setIfInBounds_toArray, List.set_cons_zero, List.set_cons_succ]
          refine but_take (i := 5) (v := (.int .i64 i)) rfl (by kernel_rfl) (by kernel_rfl) (by kernel_rfl) (by kernel_rfl) (fun _ _ _ h => h) (Or.inl ⟨by rfl, ?hy⟩) H20.out ?_
          case hy => intro w hSw; (try dsimp only at hSw); go_simp
          try simp only [Act.put, List.setIfInBounds_toArray, List.set_cons_zero, List.set_cons_succ]
          refine but_take (i := 6) (v := (.pointer (some ⟨b4, o4 + i, none⟩))) rfl (by kernel_rfl) (by kernel_rfl) (by kernel_rfl) (by kernel_rfl) (fun _ _ _ h => h) (Or.inl ⟨by rfl, ?hy⟩) H20.out ?_
          case hy => intro w hSw; (try dsimp only at hSw); go_simp
          try simp only [Act.put, List.setIfInBounds_toArray, List.set_cons_zero, List.set_cons_succ]
          refine but_take (i := 7) (v := (.int .i64 (sn : Nat))) rfl (by kernel_rfl) (by kernel_rfl) (by kernel_rfl) (by kernel_rfl) (fun _ _ _ h => h) (Or.inl ⟨by rfl, ?hy⟩) H20.out ?_
          case hy => intro w hSw; (try dsimp only at hSw); go_simp
          try simp only [Act.put, List.setIfInBounds_toArray, List.set_cons_zero, List.set_cons_succ]
          refine but_take (i := 8) (v := (.pointer (some ⟨b2, o2 + sn, none⟩))) rfl (by kernel_rfl) (by kernel_rfl) (by kernel_rfl) (by kernel_rfl) (fun _ _ _ h => h) (Or.inl ⟨by rfl, ?hy⟩) H20.out ?_
          case hy => intro w hSw; (try dsimp only at hSw); go_simp
          try simp only [Act.put, List.setIfInBounds_toArray, List.set_cons_zero, List.set_cons_succ]
          refine but_take (i := 9) (v := (.bool (acM m sn))) rfl (by kernel_rfl) (by kernel_rfl) (by kernel_rfl) (by kernel_rfl) (fun _ _ _ h => h) (Or.inl ⟨by rfl, ?hy⟩) H20.out ?_
          case hy => intro w hSw; (try dsimp only at hSw); go_simp
          try simp only [Act.put, List.setIfInBounds_toArray, List.set_cons_zero, List.set_cons_succ]
          change anyBut _ _ _ _ _ _ _ _ _ w6.drew
          generalize w6.drew = w7 at *
          have xbV : W.heap.size < w7.heap.size := by have := HO6.out.bl.size; omega
          have b2V : b2 < w7.heap.size := by have := HO6.out.bl.size; omega
          refine but_one (i := 10) (by kernel_rfl) ?_
          refine wpOp_one rfl (by rfl) (fun K hK => ?_)
          go_simp
          have H21 : Hid ((w7.alloc (.cells #[.bool (acM m sn)] 4)).cell? ⟨V.heap.size + 1 + 1, 2, none⟩ = some (.slice ab bs.length kb) ∧ (w7.alloc (.cells #[.bool (acM m sn)] 4)).cell? ⟨W.heap.size, 2, none⟩ = some (.slice (some ⟨b2, o2, none⟩) m.ac.length cap2) ∧ (w7.alloc (.cells #[.bool (acM m sn)] 4)).cell? ⟨b4, o4 + i, none⟩ = some (.int .i64 (sn : Nat)) ∧ (w7.alloc (.cells #[.bool (acM m sn)] 4)).cell? ⟨b2, o2 + sn, none⟩ = some (.bool (acM m sn))) := by
            have hba := below_alloc w7 (.cells #[.bool (acM m sn)] 4)
            obtain ⟨q1, q2, q3, q4⟩ := H20.out
            exact hid ⟨(hba.cell (p := ⟨V.heap.size + 1 + 1, 2, none⟩) l6).trans q1, (hba.cell (p := ⟨W.heap.size, 2, none⟩) xbV).trans q2, (hba.cell (p := ⟨b4, o4 + i, none⟩) hb46).trans q3, (hba.cell (p := ⟨b2, o2 + sn, none⟩) b2V).trans q4⟩
          refine hK _ _ ⟨fun _ => H21.out, ?_⟩
          clear hK K
          try simp only [Act.put, List.setIfInBounds_toArray, List.set_cons_zero, List.set_cons_succ]
          refine but_one (i := 11) (by kernel_rfl) ?_
          refine wpOp_one rfl (by rfl) (fun K hK => ?_)
          refine wp_append_own (by rfl) _ _ _ (by rfl) V.heap.size 4 i4 (.bool false) 1 1 Try.underlying23 hi4 hw0 hw1 hw2 rfl (by omega) (.slice ab bs.length kb) bs.length (bs.map Value.bool) (by rfl) (HO6.out.ac.alloc _) ⟨w7.heap.size, 0, none⟩ 1 1 [.bool (acM m sn)] (by rfl) (by rfl) (World.news_of_block (cs := #[.bool (acM m sn)]) (t := 4) (fr := (0, 0)) (heap_alloc_new w7 _)) (by simp [Value.oneCell']) (by have := Hbl.out; unfold maxLen; omega) (by have := Hbl.out; omega) (by have := HO6.out.bl.size; simp; omega) ?_
          intro v' w8 hown8 hgrow8
          obtain ⟨ab', kb', eb'⟩ := row_shape hown8
          subst eb'
          have ho8 := row_kept HO6.out.out HO6.out.ac (by decide) hgrow8
          have o8 := ho8.cell (i := 2) (by omega)
          have y8 := ho8.frozen 2
          have l8 := ho8.lt
          simp only [outF, if_true, if_false, show (2 : Nat) ≠ 0 by omega, show (2 : Nat) ≠ 1 by omega, ite_true, ite_false] at o8
          have H22 : Hid (w8.cell? ⟨V.heap.size + 1 + 1, 2, none⟩ = some (.slice ab bs.length kb) ∧ w8.cell? ⟨W.heap.size, 2, none⟩ = some (.slice (some ⟨b2, o2, none⟩) m.ac.length cap2) ∧ w8.cell? ⟨b4, o4 + i, none⟩ = some (.int .i64 (sn : Nat)) ∧ w8.cell? ⟨b2, o2 + sn, none⟩ = some (.bool (acM m sn))) := by
            obtain ⟨q1, q2, q3, q4⟩ := H20.out
            exact hid ⟨keep20 HO6.out hgrow8 (.inr (.inr rfl)) l6 q1, keep20 HO6.out hgrow8 (.inl hxV) xbV q2, keep20 HO6.out hgrow8 (.inr (.inl hv5)) hb46 q3, keep20 HO6.out hgrow8 (.inl hb2V) b2V q4⟩
          refine hK _ _ ⟨fun _ => H22.out, ?_⟩
          clear hK K ho8 H21 H20
          try simp only [Act.put, List.setIfInBounds_toArray, List.set_cons_zero, List.set_cons_succ]
          refine but_one (i := 12) (by kernel_rfl) ?_
          refine wpOp_one rfl (by rfl) (fun K hK => ?_)
          go_simp
          refine hK _ _ ⟨fun _ => H22.out, ?_⟩
          clear hK K H22
          try simp only [Act.put, List.setIfInBounds_toArray, List.set_cons_zero, List.set_cons_succ]
          refine but_one (i := 13) (by kernel_rfl) ?_
          refine wpOp_one rfl (by rfl) (fun K hK => ?_)
          go_simp
          refine hK _ _ ⟨fun h => absurd rfl h, but_done (by kernel_rfl) ?_ _⟩
          clear hK K
          try simp only [Act.put, List.setIfInBounds_toArray, List.set_cons_zero, List.set_cons_succ]
          have hO3 := HO6.out.accept (acM m sn) hgrow8 hown8
          rw [← HBS.out] at hO3
          have HO3 := hid hO3
          clear hO3 HO6 hgrow8 hown8 o8 y8 l8 l6
          go_wp2_with fail
          go_roundw
          case rel => exact ⟨i + 1, S, _, _, _, by go_num, by omega, HS.out, HO3.out⟩
          case measure => simp [intOf]; omega
    · have hS2 := hS.len
      obtain ⟨F, hF, hFl, hMF⟩ := doc_mach HB.out (by omega) hO
      obtain ⟨an, kn, en⟩ := row_shape hO.nx
      obtain ⟨ab, kb, eb⟩ := row_shape hO.ac
      subst en eb e5
      have o0 := hO.out.cell (i := 0) (by omega)
      have o1 := hO.out.cell (i := 1) (by omega)
      have o2 := hO.out.cell (i := 2) (by omega)
      have lo := hO.out.lt
      have hr := rowIs_below HrV.out hO.bl HrV.out.lt
      have r0 := hr.cell (i := 0) (by omega)
      have r1 := hr.cell (i := 1) (by omega)
      have r2 := hr.cell (i := 2) (by omega)
      have y0 := hr.frozen 0
      have y1 := hr.frozen 1
      have y2 := hr.frozen 2
      have rl := hr.lt
      simp only [outF, if_true, if_false, show (1 : Nat) ≠ 0 by omega, show (2 : Nat) ≠ 0 by omega, show (2 : Nat) ≠ 1 by omega, ite_true, ite_false] at o0 o1 o2 r0 r1 r2
      have hbz := HbV.out.trans (hO.bl.mono (by omega))
      have HC := hid (res_set hr (.int .i64 m.L) (.slice an i kn) (.slice ab i kb))
      have hbsl : (((raw (macL m) (stD m) i).take i).map (acD m)).length = i := by simp; omega
      rw [hbsl] at o2 hMF
      clear hO hS hS2 hX hr hbsl
      go_wp2_with fail
      have q0 := HC.out.c0
      have q1 := HC.out.c1
      have q2 := HC.out.c2
      exact bodyPost_ret (v := .agg #[.int .i64 m.L, .slice an i kn, .slice ab i kb]) (by simp [results, Try.results107, go_sem, q0, q1, q2]) rfl ⟨F, V.heap.size, _, _, hF, by omega, rfl, mach_set3 hMF (by omega) _ _ _, below_set3 hbz (by omega) _ _ _⟩
end Go.Proofs.Ytmllbemjcfkmjaa
/- 'told' and 'Plain': what they return, the document's and the program's. -/
namespace Go.Proofs.Ytmllbemjcfkmjaa
open Go.RowKit Go.Maps
set_option linter.unusedSimpArgs false
set_option linter.unusedVariables false

set_option maxRecDepth 100000 in
set_option maxHeartbeats 2000000 in
theorem told_any (m : Mac) (a a2 : Option Addr) (cap cap2 : Nat) (W : World) (hM : MacAt W a cap a2 cap2 m) (hB : MacB m) :
    Calls Try.prog 66 #[.agg #[.int .i64 m.L, .slice a m.nx.length cap, .slice a2 m.ac.length cap2]] W (PlainPost W (macL m) (lgM m 0)) := by
  have hb0 : Below W.heap.size W ((W.alloc (.cells #[.int .i64 m.L, .slice a m.nx.length cap, .slice a2 m.ac.length cap2] 25)).alloc (.cells #[.int .i64 0, .slice none 0 0, .slice none 0 0] 25)) := (below_alloc W _).alloc (by simp) _
  have Hv := hid (doc_any m a a2 cap cap2 ((W.alloc (.cells #[.int .i64 m.L, .slice a m.nx.length cap, .slice a2 m.ac.length cap2] 25)).alloc (.cells #[.int .i64 0, .slice none 0 0, .slice none 0 0] 25)) (hM.below hb0) hB)
  have HB := hid hb0
  have HL := hid (big_L hB).1.symm
  have Hr : Hid (((W.alloc (.cells #[.int .i64 m.L, .slice a m.nx.length cap, .slice a2 m.ac.length cap2] 25)).alloc (.cells #[.int .i64 0, .slice none 0 0, .slice none 0 0] 25)).rowIs (W.heap.size + 1) 25 3 (outF 0 (.slice none 0 0) (.slice none 0 0))) := hid (by simpa using res_cells (w := W.alloc (.cells #[.int .i64 m.L, .slice a m.nx.length cap, .slice a2 m.ac.length cap2] 25)) (Below.refl _ _) rfl)
  have hs : ((W.alloc (.cells #[.int .i64 m.L, .slice a m.nx.length cap, .slice a2 m.ac.length cap2] 25)).alloc (.cells #[.int .i64 0, .slice none 0 0, .slice none 0 0] 25)).heap.size = W.heap.size + 1 + 1 := by simp
  clear hM hB hb0
  go_enter Try.func66, Try.ntmps66
  go_wp2_with fail
  refine Hv.out.mono ?_
  rintro e wP ⟨F, base, vn, vb, hF, hbase, rfl, hMA, hbP⟩
  obtain ⟨an, cn, ab, cb, rfl, rfl, _⟩ := hMA.mac
  have hrP := rowIs_below Hr.out hbP Hr.out.lt
  have hzP := HB.out.trans (hbP.mono HB.out.size)
  have HZ := hid hzP
  have HMA := hid hMA
  have HF := hid hF
  have hps : W.heap.size + 1 + 1 ≤ wP.heap.size := by have := hbP.size; omega
  rw [hs] at hbase
  clear hF hMA hbP hzP hs Hv Hr HB
  by_cases h64 : F.length ≤ 64
  · have hd : ¬ ((64 : Int) < (F.length : Int)) := by omega
    have f0 := hrP.frozen 0
    have f1 := hrP.frozen 1
    have f2 := hrP.frozen 2
    have x0 := hrP.cell (i := 0) (by omega)
    have x1 := hrP.cell (i := 1) (by omega)
    have x2 := hrP.cell (i := 2) (by omega)
    have xl2 := hrP.lt
    have HC := hid (res_set hrP (.int .i64 m.L) (.slice an F.length cn) (.slice ab F.length cb))
    simp only [outF] at x0 x1 x2
    clear hrP
    go_wp2_with fail
    have hwl : W.heap.size + 1 < (((wP.setCell ⟨W.heap.size + 1, 0, none⟩ (.int .i64 m.L)).setCell ⟨W.heap.size + 1, 1, none⟩ (.slice an F.length cn)).setCell ⟨W.heap.size + 1, 2, none⟩ (.slice ab F.length cb)).heap.size := by simp; omega
    have hal := below_alloc (((wP.setCell ⟨W.heap.size + 1, 0, none⟩ (.int .i64 m.L)).setCell ⟨W.heap.size + 1, 1, none⟩ (.slice an F.length cn)).setCell ⟨W.heap.size + 1, 2, none⟩ (.slice ab F.length cb)) (.cells #[.int .i64 m.L, .slice an F.length cn, .slice ab F.length cb] 25)
    have o0 := (hal.cell (p := ⟨W.heap.size + 1, 0, none⟩) hwl).trans HC.out.c0
    have o1 := (hal.cell (p := ⟨W.heap.size + 1, 1, none⟩) hwl).trans HC.out.c1
    have o2 := (hal.cell (p := ⟨W.heap.size + 1, 2, none⟩) hwl).trans HC.out.c2
    exact bodyPost_ret (v := .tuple #[.agg #[.int .i64 m.L, .slice an F.length cn, .slice ab F.length cb], .int .i64 0]) (by simp [results, Try.results66, go_sem, o0, o1, o2]) rfl (zplain HL.out ⟨F, HF.out, (below_set3 HZ.out (by omega) _ _ _).trans (hal.mono (by have := HZ.out.size; simp; omega)), .inl ⟨h64, base, an, cn, ab, cb, by omega, rfl, (mach_set3 HMA.out (by omega) _ _ _).below hal⟩⟩)
  · have hd : (64 : Int) < (F.length : Int) := by omega
    have f0 := hrP.frozen 0
    have f1 := hrP.frozen 1
    have f2 := hrP.frozen 2
    have x0 := hrP.cell (i := 0) (by omega)
    have x1 := hrP.cell (i := 1) (by omega)
    have x2 := hrP.cell (i := 2) (by omega)
    have xl2 := hrP.lt
    have HC := hid (res_set hrP (.int .i64 0) (.slice none 0 0) (.slice none 0 0))
    simp only [outF] at x0 x1 x2
    clear hrP
    go_wp2_with fail
    have hwl : W.heap.size + 1 < (((wP.setCell ⟨W.heap.size + 1, 0, none⟩ (.int .i64 0)).setCell ⟨W.heap.size + 1, 1, none⟩ (.slice none 0 0)).setCell ⟨W.heap.size + 1, 2, none⟩ (.slice none 0 0)).heap.size := by simp; omega
    have hal := below_alloc (((wP.setCell ⟨W.heap.size + 1, 0, none⟩ (.int .i64 0)).setCell ⟨W.heap.size + 1, 1, none⟩ (.slice none 0 0)).setCell ⟨W.heap.size + 1, 2, none⟩ (.slice none 0 0)) (.cells #[.int .i64 m.L, .slice an F.length cn, .slice ab F.length cb] 25)
    have o0 := (hal.cell (p := ⟨W.heap.size + 1, 0, none⟩) hwl).trans HC.out.c0
    have o1 := (hal.cell (p := ⟨W.heap.size + 1, 1, none⟩) hwl).trans HC.out.c1
    have o2 := (hal.cell (p := ⟨W.heap.size + 1, 2, none⟩) hwl).trans HC.out.c2
    exact bodyPost_ret (v := .tuple #[.agg #[.int .i64 0, .slice none 0 0, .slice none 0 0], .int .i64 4]) (by simp [results, Try.results66, go_sem, o0, o1, o2]) rfl (zplain HL.out ⟨F, HF.out, (below_set3 HZ.out (by omega) _ _ _).trans (hal.mono (by have := HZ.out.size; simp; omega)), .inr ⟨by omega, rfl⟩⟩)

set_option maxRecDepth 100000 in
set_option maxHeartbeats 2000000 in
theorem rPlain_any (m : Mac) (a a2 : Option Addr) (cap cap2 : Nat) (W : World) (hM : MacAt W a cap a2 cap2 m) :
    Calls Try.prog 22 #[.agg #[.int .i64 m.L, .slice a m.nx.length cap, .slice a2 m.ac.length cap2]] W (GenPost W (valE m) m.L.toNat (langM m)) := by
  have hb0 : Below W.heap.size W ((W.alloc (.cells #[.int .i64 m.L, .slice a m.nx.length cap, .slice a2 m.ac.length cap2] 25)).alloc (.cells #[.int .i64 0, .slice none 0 0, .slice none 0 0] 25)) := (below_alloc W _).alloc (by simp) _
  have Hv := hid (rValidate_any m a a2 cap cap2 ((W.alloc (.cells #[.int .i64 m.L, .slice a m.nx.length cap, .slice a2 m.ac.length cap2] 25)).alloc (.cells #[.int .i64 0, .slice none 0 0, .slice none 0 0] 25)) (hM.below hb0))
  have HB := hid hb0
  have HM := hid (hM.below hb0)
  have Hr : Hid (((W.alloc (.cells #[.int .i64 m.L, .slice a m.nx.length cap, .slice a2 m.ac.length cap2] 25)).alloc (.cells #[.int .i64 0, .slice none 0 0, .slice none 0 0] 25)).rowIs (W.heap.size + 1) 25 3 (outF 0 (.slice none 0 0) (.slice none 0 0))) := hid (by simpa using res_cells (w := W.alloc (.cells #[.int .i64 m.L, .slice a m.nx.length cap, .slice a2 m.ac.length cap2] 25)) (Below.refl _ _) rfl)
  have hs : ((W.alloc (.cells #[.int .i64 m.L, .slice a m.nx.length cap, .slice a2 m.ac.length cap2] 25)).alloc (.cells #[.int .i64 0, .slice none 0 0, .slice none 0 0] 25)).heap.size = W.heap.size + 1 + 1 := by simp
  have hc0 : ((W.alloc (.cells #[.int .i64 m.L, .slice a m.nx.length cap, .slice a2 m.ac.length cap2] 25)).alloc (.cells #[.int .i64 0, .slice none 0 0, .slice none 0 0] 25)).cell? ⟨W.heap.size, 0, none⟩ = some (.int .i64 m.L) := by simp
  have hc1 : ((W.alloc (.cells #[.int .i64 m.L, .slice a m.nx.length cap, .slice a2 m.ac.length cap2] 25)).alloc (.cells #[.int .i64 0, .slice none 0 0, .slice none 0 0] 25)).cell? ⟨W.heap.size, 1, none⟩ = some (.slice a m.nx.length cap) := by simp
  have hc2 : ((W.alloc (.cells #[.int .i64 m.L, .slice a m.nx.length cap, .slice a2 m.ac.length cap2] 25)).alloc (.cells #[.int .i64 0, .slice none 0 0, .slice none 0 0] 25)).cell? ⟨W.heap.size, 2, none⟩ = some (.slice a2 m.ac.length cap2) := by simp
  have Hc := hid (And.intro hc0 (And.intro hc1 hc2))
  clear hM hb0 hc0 hc1 hc2
  go_enter Try.func22, Try.ntmps22
  go_wp2_with fail
  refine Hv.out.mono ?_; rintro e w1 ⟨rfl, hb1⟩
  have Hr1 := hid (rowIs_below Hr.out hb1 Hr.out.lt)
  have Hz1 := hid (HB.out.trans (hb1.mono HB.out.size))
  have HM1 := hid (HM.out.below hb1)
  have xs : W.heap.size + 1 + 1 ≤ w1.heap.size := by have := hb1.size; omega
  have hlt : W.heap.size < ((W.alloc (.cells #[.int .i64 m.L, .slice a m.nx.length cap, .slice a2 m.ac.length cap2] 25)).alloc (.cells #[.int .i64 0, .slice none 0 0, .slice none 0 0] 25)).heap.size := by omega
  have y0 := (hb1.cell (p := ⟨W.heap.size, 0, none⟩) hlt).trans Hc.out.1
  have y1 := (hb1.cell (p := ⟨W.heap.size, 1, none⟩) hlt).trans Hc.out.2.1
  have y2 := (hb1.cell (p := ⟨W.heap.size, 2, none⟩) hlt).trans Hc.out.2.2
  have yl : W.heap.size < w1.heap.size := by omega
  clear hb1 hs hlt Hv Hr HB HM Hc
  by_cases hv : valE m = 0
  · have HOK := hid (valE_zero.1 hv)
    have Hv0 := hid hv
    have Hz := hid (show m.L = (m.L.toNat : Nat) from by have := HOK.out.l1; omega)
    have d1 : (valE m == 0) = true := by rw [hv]; rfl
    have d2 : (valE m != 0) = false := by rw [bne, d1]; rfl
    clear hv
    have HP := hid ((told_any m a a2 cap cap2 w1 HM1.out HOK.out.big).mono fun e w' h => plainZ Hz.out h)
    go_wp2_with fail
    refine HP.out.mono ?_
    rintro e wP ⟨F, hF, hbP, ⟨h64, base, an, cn, ab, cb, hbase, rfl, hMA⟩ | ⟨h64, rfl⟩⟩
    · have HF := hid hF
      have HMA := hid hMA
      clear hF hMA
      have hrP := rowIs_below Hr1.out hbP Hr1.out.lt
      have hzP := Hz1.out.trans (hbP.mono Hz1.out.size)
      have f0 := hrP.frozen 0
      have f1 := hrP.frozen 1
      have f2 := hrP.frozen 2
      have x0 := hrP.cell (i := 0) (by omega)
      have x1 := hrP.cell (i := 1) (by omega)
      have x2 := hrP.cell (i := 2) (by omega)
      have xl2 := hrP.lt
      have HC := hid (res_set hrP (.int .i64 m.L) (.slice an F.length cn) (.slice ab F.length cb))
      simp only [outF] at x0 x1 x2
      clear hrP hbP
      go_wp2_with fail
      have o0 := HC.out.c0
      have o1 := HC.out.c1
      have o2 := HC.out.c2
      exact bodyPost_ret (v := .tuple #[.agg #[.int .i64 m.L, .slice an F.length cn, .slice ab F.length cb], .int .i64 0]) (by simp [results, Try.results22, go_sem, o0, o1, o2]) rfl (gen_ok Hv0.out Hz.out HF.out hzP (by omega) (by omega) h64 HMA.out)
    · have HF := hid hF
      clear hF
      have hrP := rowIs_below Hr1.out hbP Hr1.out.lt
      have hzP := Hz1.out.trans (hbP.mono Hz1.out.size)
      have f0 := hrP.frozen 0
      have f1 := hrP.frozen 1
      have f2 := hrP.frozen 2
      have x0 := hrP.cell (i := 0) (by omega)
      have x1 := hrP.cell (i := 1) (by omega)
      have x2 := hrP.cell (i := 2) (by omega)
      have xl2 := hrP.lt
      have HC := hid (res_set hrP (.int .i64 0) (.slice none 0 0) (.slice none 0 0))
      simp only [outF] at x0 x1 x2
      clear hrP hbP
      go_wp2_with fail
      have o0 := HC.out.c0
      have o1 := HC.out.c1
      have o2 := HC.out.c2
      exact bodyPost_ret (v := .tuple #[.agg #[.int .i64 0, .slice none 0 0, .slice none 0 0], .int .i64 4]) (by simp [results, Try.results22, go_sem, o0, o1, o2]) rfl (gen_large Hv0.out HF.out hzP (by omega) h64)
  · have d1 : (valE m == 0) = false := beq_eq_false_iff_ne.2 hv
    have d2 : (valE m != 0) = true := by rw [bne, d1]; rfl
    have Hv0 := hid hv
    clear hv
    have hr := Hr1.out
    have f0 := hr.frozen 0
    have f1 := hr.frozen 1
    have f2 := hr.frozen 2
    have x0 := hr.cell (i := 0) (by omega)
    have x1 := hr.cell (i := 1) (by omega)
    have x2 := hr.cell (i := 2) (by omega)
    have xl2 := hr.lt
    have HC := hid (res_set hr (.int .i64 0) (.slice none 0 0) (.slice none 0 0))
    simp only [outF] at x0 x1 x2
    clear hr
    go_wp2_with fail
    have o0 := HC.out.c0
    have o1 := HC.out.c1
    have o2 := HC.out.c2
    exact bodyPost_ret (v := .tuple #[.agg #[.int .i64 0, .slice none 0 0, .slice none 0 0], .int .i64 (valE m)]) (by simp [results, Try.results22, go_sem, o0, o1, o2]) rfl (gen_err Hv0.out rfl Hz1.out (by omega))

set_option maxRecDepth 100000 in
set_option maxHeartbeats 2000000 in
theorem Plain_any (m : Mac) (a a2 : Option Addr) (cap cap2 : Nat) (W : World) (hM : MacAt W a cap a2 cap2 m) :
    Calls Try.prog 21 #[.agg #[.int .i64 m.L, .slice a m.nx.length cap, .slice a2 m.ac.length cap2]] W (GenPost W (valE m) m.L.toNat (langM m)) := by
  have hb0 : Below W.heap.size W ((W.alloc (.cells #[.int .i64 m.L, .slice a m.nx.length cap, .slice a2 m.ac.length cap2] 25)).alloc (.cells #[.int .i64 0, .slice none 0 0, .slice none 0 0] 25)) := (below_alloc W _).alloc (by simp) _
  have Hv := hid (Validate_any m a a2 cap cap2 ((W.alloc (.cells #[.int .i64 m.L, .slice a m.nx.length cap, .slice a2 m.ac.length cap2] 25)).alloc (.cells #[.int .i64 0, .slice none 0 0, .slice none 0 0] 25)) (hM.below hb0))
  have HB := hid hb0
  have HM := hid (hM.below hb0)
  have Hr : Hid (((W.alloc (.cells #[.int .i64 m.L, .slice a m.nx.length cap, .slice a2 m.ac.length cap2] 25)).alloc (.cells #[.int .i64 0, .slice none 0 0, .slice none 0 0] 25)).rowIs (W.heap.size + 1) 25 3 (outF 0 (.slice none 0 0) (.slice none 0 0))) := hid (by simpa using res_cells (w := W.alloc (.cells #[.int .i64 m.L, .slice a m.nx.length cap, .slice a2 m.ac.length cap2] 25)) (Below.refl _ _) rfl)
  have hs : ((W.alloc (.cells #[.int .i64 m.L, .slice a m.nx.length cap, .slice a2 m.ac.length cap2] 25)).alloc (.cells #[.int .i64 0, .slice none 0 0, .slice none 0 0] 25)).heap.size = W.heap.size + 1 + 1 := by simp
  have hc0 : ((W.alloc (.cells #[.int .i64 m.L, .slice a m.nx.length cap, .slice a2 m.ac.length cap2] 25)).alloc (.cells #[.int .i64 0, .slice none 0 0, .slice none 0 0] 25)).cell? ⟨W.heap.size, 0, none⟩ = some (.int .i64 m.L) := by simp
  have hc1 : ((W.alloc (.cells #[.int .i64 m.L, .slice a m.nx.length cap, .slice a2 m.ac.length cap2] 25)).alloc (.cells #[.int .i64 0, .slice none 0 0, .slice none 0 0] 25)).cell? ⟨W.heap.size, 1, none⟩ = some (.slice a m.nx.length cap) := by simp
  have hc2 : ((W.alloc (.cells #[.int .i64 m.L, .slice a m.nx.length cap, .slice a2 m.ac.length cap2] 25)).alloc (.cells #[.int .i64 0, .slice none 0 0, .slice none 0 0] 25)).cell? ⟨W.heap.size, 2, none⟩ = some (.slice a2 m.ac.length cap2) := by simp
  have Hc := hid (And.intro hc0 (And.intro hc1 hc2))
  clear hM hb0 hc0 hc1 hc2
  go_enter Try.func21, Try.ntmps21
  go_wp2_with fail
  refine Hv.out.mono ?_; rintro e w1 ⟨rfl, hb1⟩
  have Hr1 := hid (rowIs_below Hr.out hb1 Hr.out.lt)
  have Hz1 := hid (HB.out.trans (hb1.mono HB.out.size))
  have HM1 := hid (HM.out.below hb1)
  have xs : W.heap.size + 1 + 1 ≤ w1.heap.size := by have := hb1.size; omega
  have hlt : W.heap.size < ((W.alloc (.cells #[.int .i64 m.L, .slice a m.nx.length cap, .slice a2 m.ac.length cap2] 25)).alloc (.cells #[.int .i64 0, .slice none 0 0, .slice none 0 0] 25)).heap.size := by omega
  have y0 := (hb1.cell (p := ⟨W.heap.size, 0, none⟩) hlt).trans Hc.out.1
  have y1 := (hb1.cell (p := ⟨W.heap.size, 1, none⟩) hlt).trans Hc.out.2.1
  have y2 := (hb1.cell (p := ⟨W.heap.size, 2, none⟩) hlt).trans Hc.out.2.2
  have yl : W.heap.size < w1.heap.size := by omega
  clear hb1 hs hlt Hv Hr HB HM Hc
  by_cases hv : valE m = 0
  · have HOK := hid (valE_zero.1 hv)
    have Hv0 := hid hv
    have Hz := hid (show m.L = (m.L.toNat : Nat) from by have := HOK.out.l1; omega)
    have d1 : (valE m == 0) = true := by rw [hv]; rfl
    have d2 : (valE m != 0) = false := by rw [bne, d1]; rfl
    clear hv
    have Hof := hid (of_any m a a2 cap cap2 w1)
    go_wp2_with fail
    refine Hof.out.mono ?_; rintro e w2 ⟨rfl, hb2⟩
    have Hr2 := hid (rowIs_below Hr1.out hb2 Hr1.out.lt)
    have Hz2 := hid (Hz1.out.trans (hb2.mono Hz1.out.size))
    have HM2 := hid (HM1.out.below hb2)
    have xs2 : W.heap.size + 1 + 1 ≤ w2.heap.size := by have := hb2.size; omega
    clear hb2 y0 y1 y2 yl
    have HP0 := plain_any m.L.toNat (stepM m) (accM m) 0 m.nx.length (mac_auto HOK.out) 105 106 #[macV m a a2 cap cap2] #[] #[macV m a a2 cap cap2] #[] w2 (hid (run_enter Try.func105 (by kernel_rfl) rfl))
      (hid fun w hw s hs0 hs c hc => step105 m a a2 cap cap2 w (HM2.out.below hw) HOK.out s hs0 hs c (by omega) (by have := HOK.out.l1; omega))
      (hid (run_enter Try.func106 (by kernel_rfl) rfl))
      (hid fun w hw s hs0 hs => acc106 m a a2 cap cap2 w (HM2.out.below hw) HOK.out s hs0 hs)
    have HP := hid (HP0.mono fun e w' h => plainZ Hz.out h)
    rw [← Hz.out] at HP
    unfold rdV
    clear HP0
    go_wp2_with fail
    refine HP.out.mono ?_
    rintro e wP ⟨F, hF, hbP, ⟨h64, base, an, cn, ab, cb, hbase, rfl, hMA⟩ | ⟨h64, rfl⟩⟩
    · have HF := hid hF
      have HMA := hid hMA
      clear hF hMA
      have hrP := rowIs_below Hr2.out hbP Hr2.out.lt
      have hzP := Hz2.out.trans (hbP.mono Hz2.out.size)
      have f0 := hrP.frozen 0
      have f1 := hrP.frozen 1
      have f2 := hrP.frozen 2
      have x0 := hrP.cell (i := 0) (by omega)
      have x1 := hrP.cell (i := 1) (by omega)
      have x2 := hrP.cell (i := 2) (by omega)
      have xl2 := hrP.lt
      have HC := hid (res_set hrP (.int .i64 m.L) (.slice an F.length cn) (.slice ab F.length cb))
      simp only [outF] at x0 x1 x2
      clear hrP hbP
      go_wp2_with fail
      have o0 := HC.out.c0
      have o1 := HC.out.c1
      have o2 := HC.out.c2
      exact bodyPost_ret (v := .tuple #[.agg #[.int .i64 m.L, .slice an F.length cn, .slice ab F.length cb], .int .i64 0]) (by simp [results, Try.results21, go_sem, o0, o1, o2]) rfl (gen_ok Hv0.out Hz.out HF.out hzP (by omega) (by omega) h64 HMA.out)
    · have HF := hid hF
      clear hF
      have hrP := rowIs_below Hr2.out hbP Hr2.out.lt
      have hzP := Hz2.out.trans (hbP.mono Hz2.out.size)
      have f0 := hrP.frozen 0
      have f1 := hrP.frozen 1
      have f2 := hrP.frozen 2
      have x0 := hrP.cell (i := 0) (by omega)
      have x1 := hrP.cell (i := 1) (by omega)
      have x2 := hrP.cell (i := 2) (by omega)
      have xl2 := hrP.lt
      have HC := hid (res_set hrP (.int .i64 0) (.slice none 0 0) (.slice none 0 0))
      simp only [outF] at x0 x1 x2
      clear hrP hbP
      go_wp2_with fail
      have o0 := HC.out.c0
      have o1 := HC.out.c1
      have o2 := HC.out.c2
      exact bodyPost_ret (v := .tuple #[.agg #[.int .i64 0, .slice none 0 0, .slice none 0 0], .int .i64 4]) (by simp [results, Try.results21, go_sem, o0, o1, o2]) rfl (gen_large Hv0.out HF.out hzP (by omega) h64)
  · have d1 : (valE m == 0) = false := beq_eq_false_iff_ne.2 hv
    have d2 : (valE m != 0) = true := by rw [bne, d1]; rfl
    have Hv0 := hid hv
    clear hv
    have hr := Hr1.out
    have f0 := hr.frozen 0
    have f1 := hr.frozen 1
    have f2 := hr.frozen 2
    have x0 := hr.cell (i := 0) (by omega)
    have x1 := hr.cell (i := 1) (by omega)
    have x2 := hr.cell (i := 2) (by omega)
    have xl2 := hr.lt
    have HC := hid (res_set hr (.int .i64 0) (.slice none 0 0) (.slice none 0 0))
    simp only [outF] at x0 x1 x2
    clear hr
    go_wp2_with fail
    have o0 := HC.out.c0
    have o1 := HC.out.c1
    have o2 := HC.out.c2
    exact bodyPost_ret (v := .tuple #[.agg #[.int .i64 0, .slice none 0 0, .slice none 0 0], .int .i64 (valE m)]) (by simp [results, Try.results21, go_sem, o0, o1, o2]) rfl (gen_err Hv0.out rfl Hz1.out (by omega))
end Go.Proofs.Ytmllbemjcfkmjaa
/- 'Equal' reports whether two machines are equal. -/
namespace Go.Proofs.Ytmllbemjcfkmjaa
open Go.RowKit Go.Maps
set_option linter.unusedSimpArgs false
set_option linter.unusedVariables false

def eqM (m k : Mac) : Bool := decide (m.L = k.L ∧ m.nx = k.nx ∧ m.ac = k.ac)
theorem eqM_L {m k : Mac} (h : m.L ≠ k.L) : eqM m k = false := decide_eq_false fun x => h x.1
theorem eqM_n {m k : Mac} (h : m.nx.length ≠ k.nx.length) : eqM m k = false := decide_eq_false fun x => h (by rw [x.2.1])
theorem eqM_a {m k : Mac} (h : m.ac.length ≠ k.ac.length) : eqM m k = false := decide_eq_false fun x => h (by rw [x.2.2])
theorem eqM_row {m k : Mac} (i : Nat) (h : rowOf m i ≠ rowOf k i) : eqM m k = false := decide_eq_false fun x => h (by unfold rowOf; rw [x.2.1])
theorem eqM_acc {m k : Mac} (i : Nat) (h : m.ac.getD i false ≠ k.ac.getD i false) : eqM m k = false := decide_eq_false fun x => h (by rw [x.2.2])
theorem eqM_yes {m k : Mac} (h1 : m.L = k.L) (h2 : m.nx.length = k.nx.length) (h3 : m.ac.length = k.ac.length) (h4 : ∀ i, i < m.nx.length → rowOf m i = rowOf k i) (h5 : ∀ i, i < m.ac.length → m.ac.getD i false = k.ac.getD i false) : eqM m k = true := by
  refine decide_eq_true ⟨h1, List.ext_getElem h2 fun i hi hi' => ?_, List.ext_getElem h3 fun i hi hi' => ?_⟩
  · have := h4 i hi
    unfold rowOf at this
    simpa [List.getD, hi, hi'] using this
  · have := h5 i hi
    simpa [List.getD, hi, hi'] using this
theorem eqM_self (m : Mac) : eqM m m = true := decide_eq_true ⟨rfl, rfl, rfl⟩

set_option maxRecDepth 100000 in
set_option maxHeartbeats 4000000 in
theorem Equal_gen (m k : Mac) (x y : Int) (n n2 c c2 : Nat) (hx : Hid (m.L = x)) (hy : Hid (k.L = y)) (hn : Hid (m.nx.length = n)) (hn2 : Hid (k.nx.length = n2)) (hc : Hid (m.ac.length = c)) (hc2 : Hid (k.ac.length = c2))
    (a a2 : Option Addr) (cap cap2 : Nat) (b b2 : Option Addr) (dap dap2 : Nat) (W : World) (hM : MacAt W a cap a2 cap2 m) (hK : MacAt W b dap b2 dap2 k) :
    Calls Try.prog 23 #[.agg #[.int .i64 x, .slice a n cap, .slice a2 c cap2], .agg #[.int .i64 y, .slice b n2 dap, .slice b2 c2 dap2]] W fun e w' => e = .returned (.bool (eqM m k)) ∧ Below W.heap.size W w' := by
  have hbA := below_alloc W (.cells #[.int .i64 x, .slice a n cap, .slice a2 c cap2] 25)
  have hsA : (W.alloc (.cells #[.int .i64 x, .slice a n cap, .slice a2 c cap2] 25)).heap.size = W.heap.size + 1 := by simp
  have hbB := below_alloc (W.alloc (.cells #[.int .i64 x, .slice a n cap, .slice a2 c cap2] 25)) (.cells #[.int .i64 y, .slice b n2 dap, .slice b2 c2 dap2] 25)
  have hs : ((W.alloc (.cells #[.int .i64 x, .slice a n cap, .slice a2 c cap2] 25)).alloc (.cells #[.int .i64 y, .slice b n2 dap, .slice b2 c2 dap2] 25)).heap.size = W.heap.size + 1 + 1 := by simp
  rw [hsA] at hbB
  have hb0 := hbA.trans (hbB.mono (by omega))
  have HM := hid (hM.below hb0)
  have HK := hid (hK.below hb0)
  have HX : Hid (BoxAt W.heap.size ((W.alloc (.cells #[.int .i64 x, .slice a n cap, .slice a2 c cap2] 25)).alloc (.cells #[.int .i64 y, .slice b n2 dap, .slice b2 c2 dap2] 25)) (.int .i64 x) (.slice a n cap) (.slice a2 c cap2)) := hid (box_at hbB rfl)
  have HY : Hid (BoxAt (W.heap.size + 1) ((W.alloc (.cells #[.int .i64 x, .slice a n cap, .slice a2 c cap2] 25)).alloc (.cells #[.int .i64 y, .slice b n2 dap, .slice b2 c2 dap2] 25)) (.int .i64 y) (.slice b n2 dap) (.slice b2 c2 dap2)) := hid (by have := box_at (W := W.alloc (.cells #[.int .i64 x, .slice a n cap, .slice a2 c cap2] 25)) (x := .int .i64 y) (y := .slice b n2 dap) (z := .slice b2 c2 dap2) (t := 25) (Below.refl _ _) rfl; rw [hsA] at this; exact this)
  have Hb0 := hid hb0
  have Hs := hid hs
  have hmL := hM.l1
  have hmc := hM.c1
  have hm2 := hM.l2
  have hmc2 := hM.c2
  rw [hn.out] at hmL
  rw [hc.out] at hm2
  have hnm : n ≤ 9223372036854775807 := by unfold maxLen at hmc; omega
  have hcm : c ≤ 9223372036854775807 := by unfold maxLen at hmc2; omega
  clear hM hK hb0 hbA hbB hsA hs
  by_cases hL : x = y
  · by_cases hN : n = n2
    · by_cases hA : c = c2
      · subst hL hN hA
        go_enter Try.func23, Try.ntmps23
        go_wp2_with fail
        generalize ((W.alloc (.cells #[.int .i64 x, .slice a n cap, .slice a2 c cap2] 25)).alloc (.cells #[.int .i64 x, .slice b n dap, .slice b2 c dap2] 25)) = V at *
        go_loopw [5] (fun v5 w' => ∃ i : Nat, i ≤ n ∧ v5 = .int .i64 i ∧ (∀ j, j < i → rowOf m j = rowOf k j) ∧ Below V.heap.size V w') (fun v5 _ => n - (intOf v5).toNat)
        case atStart => exact ⟨0, by omega, rfl, fun j hj => absurd hj (Nat.not_lt_zero j), Below.refl _ _⟩
        case round =>
          obtain ⟨i, hi, rfl, hq, hb⟩ := hrel
          have hX := HX.out
          have hY := HY.out
          have x0 := (hb.cell (p := ⟨W.heap.size, 0, none⟩) hX.lt).trans hX.c0
          have x1 := (hb.cell (p := ⟨W.heap.size, 1, none⟩) hX.lt).trans hX.c1
          have x2 := (hb.cell (p := ⟨W.heap.size, 2, none⟩) hX.lt).trans hX.c2
          have y0 := (hb.cell (p := ⟨W.heap.size + 1, 0, none⟩) hY.lt).trans hY.c0
          have y1 := (hb.cell (p := ⟨W.heap.size + 1, 1, none⟩) hY.lt).trans hY.c1
          have y2 := (hb.cell (p := ⟨W.heap.size + 1, 2, none⟩) hY.lt).trans hY.c2
          have hsz := hb.size
          have hss := Hs.out
          have xl : W.heap.size < wr.heap.size := by omega
          have yl : W.heap.size + 1 < wr.heap.size := by omega
          have Hq := hid hq
          have Hb := hid hb
          clear hX hY hq hb
          by_cases hlt : i < n
          · have hMk := HM.out.below Hb.out
            have hKk := HK.out.below Hb.out
            obtain ⟨b1, o1, rfl, hb1, ra, rc, hc0, r1, r2, hIA⟩ := hMk.nx i (by rw [hn.out]; exact hlt)
            obtain ⟨b3, o3, rfl, hb3, rb, rd, hc3, r3, r4, hIB⟩ := hKk.nx i (by rw [hn2.out]; exact hlt)
            have i1 : (0 : Int) ≤ (i : Int) := by omega
            have i2 : (i : Int) < (n : Int) := by omega
            have hd : Below wr.heap.size wr wr.drew := (Below.refl _ _).drew
            have HS := hid (SameInts_gen (rowOf m i) (rowOf k i) ra rb rc rd wr.drew (hIA.below hd) (hIB.below hd) (by omega))
            clear hMk hKk hIA hIB hsz hss hd
            go_wp2_with fail
            refine wp_region_still_tail 10 (by kernel_rfl) (by kernel_rfl) ?_
            simp only [List.take_succ_cons, List.take_zero, List.drop_succ_cons, List.drop_zero]
            refine St.out ?_
            iterate 10 (refine st_want (by kernel_rfl) (fun K hK => ?_); go_simp; refine hK _ ?_; clear hK K)
            refine st_nil ?_
            change wpList _ _ _ _ _ wr.drew
            by_cases he : rowOf m i = rowOf k i
            · have hdt : decide (rowOf m i = rowOf k i) = true := decide_eq_true he
              rw [hdt] at HS
              have He := hid he
              clear he hdt
              go_wp2_with fail
              refine HS.out.mono ?_; rintro e w1 ⟨rfl, hb4⟩
              have hb5 := Hb.out.trans (((Below.refl wr.heap.size wr).drew.trans hb4).mono Hb.out.size)
              clear hb4 HS
              go_wp2_with fail
              go_roundw
              case rel => exact ⟨i + 1, by omega, by go_num, fun j hj => by
                by_cases e : j = i
                · subst e; exact He.out
                · exact Hq.out j (by omega), hb5⟩
              case measure => simp [intOf]; omega
            · have hdt : decide (rowOf m i = rowOf k i) = false := decide_eq_false he
              rw [hdt] at HS
              have R := hid (eqM_row i he)
              clear he hdt
              go_wp2_with fail
              refine HS.out.mono ?_; rintro e w1 ⟨rfl, hb4⟩
              have hb5 := Hb.out.trans (((Below.refl wr.heap.size wr).drew.trans hb4).mono Hb.out.size)
              have hbz := Hb0.out.trans (hb5.mono Hb0.out.size)
              clear hb4 HS hb5
              go_wp2_with fail
              go_ret
              exact ⟨by rw [R.out]; rfl, hbz⟩
          · obtain rfl : i = n := by omega
            clear hsz hss
            go_wp2_with fail
            obtain ⟨V2, hV2⟩ : ∃ V2, V2 = wr := ⟨_, rfl⟩
            subst hV2
            go_loopw [6] (fun v6 w' => ∃ i : Nat, i ≤ c ∧ v6 = .int .i64 i ∧ (∀ j, j < i → m.ac.getD j false = k.ac.getD j false) ∧ ∃ n, w' = V2.drewN n) (fun v6 _ => c - (intOf v6).toNat)
            case atStart => exact ⟨0, by omega, rfl, fun j hj => absurd hj (Nat.not_lt_zero j), 0, rfl⟩
            case round =>
              obtain ⟨j, hj, rfl, hq2, nq, rfl⟩ := hrel
              have Hq2 := hid hq2
              clear hq2
              have Hbz : Hid (∀ n, Below W.heap.size W (V2.drewN n)) := hid fun n => below_quiet (Hb0.out.trans (Hb.out.mono Hb0.out.size))
              by_cases hlt2 : j < c
              · obtain ⟨b1, o1, rfl, hb1, c1⟩ := (HM.out.below Hb.out).ac j (by rw [hc.out]; exact hlt2)
                obtain ⟨b3, o3, rfl, hb3, c3⟩ := (HK.out.below Hb.out).ac j (by rw [hc2.out]; exact hlt2)
                have i1 : (0 : Int) ≤ (j : Int) := by omega
                have i2 : (j : Int) < (c : Int) := by omega
                have HE := hid (eqM_acc (m := m) (k := k) j)
                obtain ⟨p, hp⟩ : ∃ p, m.ac.getD j false = p := ⟨_, rfl⟩
                obtain ⟨q, hq⟩ : ∃ q, k.ac.getD j false = q := ⟨_, rfl⟩
                rw [hp] at c1
                rw [hq] at c3
                have Hp := hid hp
                have Hq3 := hid hq
                clear hp hq
                by_cases he : p = q
                · subst he
                  go_wp2_with fail
                  go_quiet (fail)
                  go_wp2_with fail
                  go_roundw
                  case rel => exact ⟨j + 1, by omega, by go_num, fun t ht => by
                    by_cases e : t = j
                    · subst e; rw [Hp.out, Hq3.out]
                    · exact Hq2.out t (by omega), _, rfl⟩
                  case measure => simp [intOf]; omega
                · have R := hid (HE.out (by rw [Hp.out, Hq3.out]; exact he))
                  cases p
                  · cases q
                    · exact absurd rfl he
                    · clear he
                      go_wp2_with fail
                      go_quiet (fail)
                      go_wp2_with fail
                      go_ret
                      exact ⟨by rw [R.out]; rfl, by first | exact Hbz.out _ | exact below_quiet (Hbz.out _)⟩
                  · cases q
                    · clear he
                      go_wp2_with fail
                      go_quiet (fail)
                      go_wp2_with fail
                      go_ret
                      exact ⟨by rw [R.out]; rfl, by first | exact Hbz.out _ | exact below_quiet (Hbz.out _)⟩
                    · exact absurd rfl he
              · obtain rfl : j = c := by omega
                have R := hid (eqM_yes (hx.out.trans hy.out.symm) (hn.out.trans hn2.out.symm) (hc.out.trans hc2.out.symm) (fun i hi => Hq.out i (by rw [← hn.out]; exact hi)) (fun i hi => Hq2.out i (by rw [← hc.out]; exact hi)))
                go_wp2_with fail
                go_ret
                exact ⟨by rw [R.out]; rfl, by first | exact Hbz.out _ | exact below_quiet (Hbz.out _)⟩
      · subst hL hN
        have hA2 : ¬ (c : Int) = (c2 : Int) := by omega
        have R := hid (eqM_a (m := m) (k := k) (by rw [hc.out, hc2.out]; exact hA))
        go_enter Try.func23, Try.ntmps23
        go_wp2_with fail
        go_ret
        exact ⟨by rw [R.out]; rfl, Hb0.out⟩
    · subst hL
      have hN2 : ¬ (n : Int) = (n2 : Int) := by omega
      have R := hid (eqM_n (m := m) (k := k) (by rw [hn.out, hn2.out]; exact hN))
      go_enter Try.func23, Try.ntmps23
      go_wp2_with fail
      go_ret
      exact ⟨by rw [R.out]; rfl, Hb0.out⟩
  · have R := hid (eqM_L (m := m) (k := k) (by rw [hx.out, hy.out]; exact hL))
    go_enter Try.func23, Try.ntmps23
    go_wp2_with fail
    go_ret
    exact ⟨by rw [R.out]; rfl, Hb0.out⟩
theorem Equal_any (m k : Mac) (a a2 : Option Addr) (cap cap2 : Nat) (b b2 : Option Addr) (dap dap2 : Nat) (W : World) (hM : MacAt W a cap a2 cap2 m) (hK : MacAt W b dap b2 dap2 k) :
    Calls Try.prog 23 #[.agg #[.int .i64 m.L, .slice a m.nx.length cap, .slice a2 m.ac.length cap2], .agg #[.int .i64 k.L, .slice b k.nx.length dap, .slice b2 k.ac.length dap2]] W fun e w' => e = .returned (.bool (eqM m k)) ∧ Below W.heap.size W w' :=
  Equal_gen m k _ _ _ _ _ _ (hid rfl) (hid rfl) (hid rfl) (hid rfl) (hid rfl) (hid rfl) a a2 cap cap2 b b2 dap dap2 W hM hK
end Go.Proofs.Ytmllbemjcfkmjaa
