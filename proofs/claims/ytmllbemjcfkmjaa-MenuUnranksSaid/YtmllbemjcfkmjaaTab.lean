/- Texts of the menu seat in one: Mac, MacLaw, Fn, Val, Tab. -/
import Derived.Test.YtmllbemjcfkmjaaPlainOut
/- A machine as it lies in memory, whoever laid it; what it must be; its language. -/
namespace Go.Proofs.Ytmllbemjcfkmjaa
open Go.RowKit Go.Maps
set_option linter.unusedSimpArgs false
set_option linter.unusedVariables false

structure Mac where
  L : Int
  nx : List (List Int)
  ac : List Bool
def BoolsAt (w : World) (a : Option Addr) (bs : List Bool) : Prop :=
  ∀ i, i < bs.length → ∃ b off, a = some ⟨b, off, none⟩ ∧ b < w.heap.size ∧ w.cell? ⟨b, off + i, none⟩ = some (.bool (bs.getD i false))
theorem BoolsAt.below {w w' : World} {a : Option Addr} {bs : List Bool} (h : BoolsAt w a bs) (hb : Below w.heap.size w w') : BoolsAt w' a bs := by
  intro i hi
  obtain ⟨b, off, e, hlt, hc⟩ := h i hi
  exact ⟨b, off, e, Nat.lt_of_lt_of_le hlt hb.size, by rw [hb.cell (p := ⟨b, off + i, none⟩) hlt]; exact hc⟩
def rowOf (m : Mac) (j : Nat) : List Int := m.nx.getD j []
structure MacAt (w : World) (a : Option Addr) (cap : Nat) (a2 : Option Addr) (cap2 : Nat) (m : Mac) : Prop where
  l1 : m.nx.length ≤ cap
  c1 : cap ≤ maxLen
  l2 : m.ac.length ≤ cap2
  c2 : cap2 ≤ maxLen
  ac : BoolsAt w a2 m.ac
  nx : ∀ j, j < m.nx.length → ∃ b off, a = some ⟨b, off, none⟩ ∧ b < w.heap.size ∧ ∃ ra rc, w.cell? ⟨b, off + j, none⟩ = some (.slice ra (rowOf m j).length rc) ∧ (rowOf m j).length ≤ rc ∧ rc ≤ maxLen ∧ IntsAt w ra (rowOf m j)
theorem MacAt.below {w w' : World} {a a2 : Option Addr} {cap cap2 : Nat} {m : Mac} (h : MacAt w a cap a2 cap2 m) (hb : Below w.heap.size w w') : MacAt w' a cap a2 cap2 m := by
  refine ⟨h.l1, h.c1, h.l2, h.c2, h.ac.below hb, fun j hj => ?_⟩
  obtain ⟨b, off, e, hlt, ra, rc, hc, h1, h2, h3⟩ := h.nx j hj
  exact ⟨b, off, e, Nat.lt_of_lt_of_le hlt hb.size, ra, rc, by rw [hb.cell (p := ⟨b, off + j, none⟩) hlt]; exact hc, h1, h2, h3.below hb⟩
/-- The machine of a list of languages. -/
noncomputable def macOf (L : Nat) (F : List Lang) : Mac := ⟨L, canNext L F, canAcc F⟩
theorem own_bools {w : World} {B : Nat} {t : TypeId} {v : Value} {bs : List Bool} (h : w.ownsRow B t 1 v bs.length (bs.map Value.bool)) : ∃ a cap, v = .slice a bs.length cap ∧ BoolsAt w a bs ∧ bs.length ≤ cap ∧ cap ≤ maxLen := by
  obtain ⟨_, h2⟩ := h
  rcases h2 with ⟨rfl, h0⟩ | ⟨gb, cap, cur, rfl, hb, hg, hn, hcm, hcs, htake⟩
  · refine ⟨none, 0, by rw [h0], fun i hi => by omega, by omega, Nat.zero_le _⟩
  · refine ⟨some ⟨gb, 0, none⟩, cap, rfl, fun i hi => ⟨gb, 0, rfl, (Array.getElem?_eq_some_iff.1 hg).1, ?_⟩, hn, hcm⟩
    rw [cell_of_row w gb (0 + i) cur t (0, 0) hg, Nat.zero_add]
    have e : (cur.toList.take (bs.length * 1))[i]? = (bs.map Value.bool)[i]? := by rw [htake]
    rw [List.getElem?_take, if_pos (by omega)] at e
    rw [← Array.getElem?_toList, e]
    simp [List.getD, hi]
theorem MachAt.mac {w : World} {base L : Nat} {F : List Lang} {vn vb : Value} (h : MachAt w base L F vn vb) : ∃ a cap a2 cap2, vn = .slice a F.length cap ∧ vb = .slice a2 F.length cap2 ∧ MacAt w a cap a2 cap2 (macOf L F) := by
  obtain ⟨Q, h1, h2, h3⟩ := h
  have e3 : (canAcc F).length = F.length := by simp [canAcc]
  have e1 : (canNext L F).length = F.length := by simp [canNext]
  rw [← e3] at h3
  obtain ⟨a2, cap2, rfl, hB, b1, b2⟩ := own_bools h3
  rcases h1.2 with ⟨rfl, h0⟩ | ⟨gb, cap, cur, rfl, hb, hg, hn, hcm, hcs, htake⟩
  · refine ⟨none, 0, a2, cap2, by rw [h0], by rw [e3], ⟨by show (canNext L F).length ≤ 0; omega, Nat.zero_le _, b1, b2, hB, fun j hj => ?_⟩⟩
    have : j < (canNext L F).length := hj
    omega
  · refine ⟨some ⟨gb, 0, none⟩, cap, a2, cap2, rfl, by rw [e3], ⟨by show (canNext L F).length ≤ cap; omega, hcm, b1, b2, hB, fun j hj => ?_⟩⟩
    have hj' : j < F.length := by have : j < (canNext L F).length := hj; omega
    have hl : (rowOf (macOf L F) j).length = L := by
      show ((canNext L F).getD j []).length = L
      simp [canNext, List.getD, hj', canRow]
    have hr := h2 j hj'
    have e : ((canNext L F).getD j []) = rowOf (macOf L F) j := rfl
    rw [e] at hr
    generalize rowOf (macOf L F) j = xs at hr hl ⊢
    subst hl
    obtain ⟨ra, rc, er, hI, r1, r2⟩ := own_ints hr
    refine ⟨gb, 0, rfl, (Array.getElem?_eq_some_iff.1 hg).1, ra, rc, ?_, r1, r2, hI⟩
    rw [cell_of_row w gb (0 + j) cur 33 (0, 0) hg, Nat.zero_add]
    have e : (cur.toList.take (F.length * 1))[j]? = ((List.range F.length).map Q)[j]? := by rw [htake]
    rw [List.getElem?_take, if_pos (by omega)] at e
    rw [← Array.getElem?_toList, e, List.getElem?_map, List.getElem?_range hj', Option.map_some, er]
end Go.Proofs.Ytmllbemjcfkmjaa
/- What a machine must be, and its language; plainly. -/
namespace Go.Proofs.Ytmllbemjcfkmjaa
open Go.RowKit Go.Maps
set_option linter.unusedSimpArgs false
set_option linter.unusedVariables false

def stepM (m : Mac) (s : Int) (a : Nat) : Int := nth (rowOf m s.toNat) a
def accM (m : Mac) (s : Int) : Bool := m.ac.getD s.toNat false
structure MacOK (m : Mac) : Prop where
  l1 : 1 ≤ m.L
  l6 : m.L ≤ 6
  n1 : 1 ≤ m.nx.length
  n64 : m.nx.length ≤ 64
  ac : m.ac.length = m.nx.length
  len : ∀ j, j < m.nx.length → ((rowOf m j).length : Int) = m.L
  el : ∀ j, j < m.nx.length → ∀ a, a < (rowOf m j).length → 0 ≤ nth (rowOf m j) a ∧ nth (rowOf m j) a < m.nx.length
noncomputable def macL (m : Mac) : Nat := m.L.toNat
noncomputable def langM (m : Mac) : Lang := laA (macL m) (stepM m) (accM m) 0
theorem mac_auto {m : Mac} (h : MacOK m) : AutoOK (macL m) (stepM m) 0 m.nx.length := by
  have h1 := h.l1
  have h6 := h.l6
  have hn := h.n1
  have hn64 := h.n64
  refine ⟨by unfold macL; omega, by unfold macL; omega, by omega, by omega, by omega, by omega, fun s hs hs2 a ha => ?_⟩
  have hj : s.toNat < m.nx.length := by omega
  have hl := h.len s.toNat hj
  exact h.el s.toNat hj a (by unfold macL at ha; omega)
open Classical in
/-- 0: it is good; 4: too large; 1: bad. -/
noncomputable def valE (m : Mac) : Int := if m.L < 1 ∨ 6 < m.L then 1 else if 64 < m.nx.length then 4 else if MacOK m then 0 else 1
theorem valE_ok {m : Mac} (h : MacOK m) : valE m = 0 := by
  unfold valE
  rw [if_neg (by have := h.l1; have := h.l6; omega), if_neg (by have := h.n64; omega), if_pos h]
theorem valE_zero {m : Mac} : valE m = 0 ↔ MacOK m := by
  constructor
  · intro h
    unfold valE at h
    split at h
    · cases h
    · split at h
      · cases h
      · split at h
        · assumption
        · cases h
  · exact valE_ok
end Go.Proofs.Ytmllbemjcfkmjaa
/- 'slices.IndexFunc' and 'slices.ContainsFunc' over a function value: what they return. -/
namespace Go.Proofs.Ytmllbemjcfkmjaa
open Go.RowKit
set_option linter.unusedSimpArgs false
set_option linter.unusedVariables false

theorem run_enter {P : Program} {f : FuncId} {fn : Func} {c : Code} (hf : P.funcs[f]? = some fn) (hname : (fn.name == "runtime.NumGoroutine") = false) (hb : fn.body = some c) (w : World) (args : Array Value) :
    Sem.run P (callFunc f args) w = .ok (.enter f args) w := by
  unfold callFunc
  simp [hf, hb, Sem.run_bind, Sem.run_pure, Result.andThen]
  simpa using hname
/-- The function value tests p in this world, and leaves it. -/
structure FnP (f : Nat) (b c : Array Value) (p : Int → Bool) (W : World) : Prop where
  run : ∀ w args, Sem.run Try.prog (callFunc f args) w = .ok (.enter f args) w
  call : ∀ x, Calls Try.prog f (b.push (.int .i64 x) ++ c) W fun e w' => e = .returned (.bool (p x)) ∧ W = w'
def IdxPost (p : Int → Bool) (xs : List Int) (W : World) (e : Ending) (w' : World) : Prop :=
  W = w' ∧ ((∃ k : Nat, k < xs.length ∧ e = .returned (.int .i64 k) ∧ p (nth xs k) = true) ∨ (e = .returned (.int .i64 (-1)) ∧ ∀ j, j < xs.length → p (nth xs j) = false))
def anyI (p : Int → Bool) (xs : List Int) : Bool := xs.any p
theorem anyI_yes {p : Int → Bool} {xs : List Int} {k : Nat} (hk : k < xs.length) (h : p (nth xs k) = true) : anyI p xs = true := by
  unfold anyI
  rw [List.any_eq_true]
  refine ⟨nth xs k, ?_, h⟩
  simp [nth, List.getD, hk]
theorem anyI_no {p : Int → Bool} {xs : List Int} : anyI p xs = false ↔ ∀ j, j < xs.length → p (nth xs j) = false := by
  unfold anyI
  rw [List.any_eq_false]
  constructor
  · intro h j hj
    have := h (nth xs j) (by simp [nth, List.getD, hj])
    simpa using this
  · intro h x hx
    obtain ⟨j, hj, rfl⟩ := List.getElem_of_mem hx
    have := h j hj
    simp [nth, List.getD, hj] at this
    simp [this]
set_option maxRecDepth 100000 in
set_option maxHeartbeats 1000000 in
theorem indexFunc_any (f : Nat) (b c : Array Value) (p : Int → Bool) (xs : List Int) (a : Option Addr) (cap : Nat) (W : World) (hI : IntsAt W a xs) (hl : xs.length ≤ maxLen) (HF : Hid (FnP f b c p W)) :
    Calls Try.prog 108 #[.slice a xs.length cap, .func (.func f) b c] W (IdxPost p xs W) := by
  unfold maxLen at hl
  go_enter Try.func108, Try.ntmps108
  go_wp2_with fail
  go_loop [5, 8] (fun v5 v8 => ∃ k : Nat, k ≤ xs.length ∧ v8 = .int .i64 k ∧ Hid (∀ j, j < k → p (nth xs j) = false)) (fun _ v8 => xs.length - (intOf v8).toNat)
  case atStart => exact ⟨0, by omega, rfl, hid fun j hj => by omega⟩
  case round =>
    obtain ⟨k, hk, rfl, hno⟩ := hrel
    by_cases hlt : k < xs.length
    · obtain ⟨b', off, rfl, hbl, c1⟩ := hI k hlt
      have Hr := hid HF.out.run
      have Hc := hid (HF.out.call (nth xs k))
      cases hp : p (nth xs k)
      · rw [hp] at Hc
        go_wp2_with fail
        rw [Hr.out, Oper.upon_enter]
        refine Hc.out.mono ?_; rintro e w2 ⟨rfl, rfl⟩
        go_wp2_with fail
        go_round
        case rel => exact ⟨k + 1, by omega, by go_num, hid fun j hj => by
          by_cases e : j = k
          · subst e; exact hp
          · exact hno.out j (by omega)⟩
        case measure => simp [intOf]; omega
      · rw [hp] at Hc
        go_wp2_with fail
        rw [Hr.out, Oper.upon_enter]
        refine Hc.out.mono ?_; rintro e w2 ⟨rfl, rfl⟩
        go_wp2_with fail
        go_ret
        exact ⟨rfl, .inl ⟨k, hlt, rfl, hp⟩⟩
    · obtain rfl : k = xs.length := by omega
      go_wp2_with fail
      go_ret
      exact ⟨rfl, .inr ⟨rfl, hno.out⟩⟩
theorem containsFunc_any (f : Nat) (b c : Array Value) (p : Int → Bool) (xs : List Int) (a : Option Addr) (cap : Nat) (W : World) (hI : IntsAt W a xs) (hl : xs.length ≤ maxLen) (HF : Hid (FnP f b c p W)) :
    Calls Try.prog 71 #[.slice a xs.length cap, .func (.func f) b c] W fun e w' => e = .returned (.bool (anyI p xs)) ∧ W = w' := by
  have Hi := hid (indexFunc_any f b c p xs a cap W hI hl HF)
  go_enter Try.func71, Try.ntmps71
  go_wp2_with fail
  refine Hi.out.mono ?_
  intro e w' h
  obtain ⟨rfl, ⟨k, hk, rfl, hp⟩ | ⟨rfl, hno⟩⟩ := h
  · have hA := hid (anyI_yes hk hp)
    have hd : decide ((0 : Int) ≤ (k : Int)) = true := by simp
    clear hp
    go_wp2_with fail
    go_ret
    exact ⟨by rw [hA.out]; rfl, rfl⟩
  · have hA := hid (anyI_no.2 hno)
    clear hno
    go_wp2_with fail
    go_ret
    exact ⟨by rw [hA.out]; rfl, rfl⟩
end Go.Proofs.Ytmllbemjcfkmjaa
/- 'within' and the document's 'Validate': what they return. -/
namespace Go.Proofs.Ytmllbemjcfkmjaa
open Go.RowKit
set_option linter.unusedSimpArgs false
set_option linter.unusedVariables false

theorem within_any (n lo hi : Int) (w : World) :
    Calls Try.prog 73 #[.int .i64 n, .int .i64 lo, .int .i64 hi] w fun e w' => e = .returned (.bool (decide (lo ≤ n) && decide (n ≤ hi))) ∧ w = w' := by
  by_cases h1 : lo ≤ n
  · by_cases h2 : n ≤ hi
    · go_enter Try.func73, Try.ntmps73
      go_wp2
      go_ret
      exact ⟨by simp [h1, h2], rfl⟩
    · go_enter Try.func73, Try.ntmps73
      go_wp2
      go_ret
      exact ⟨by simp [h1, h2], rfl⟩
  · go_enter Try.func73, Try.ntmps73
    go_wp2
    go_ret
    exact ⟨by simp; omega, rfl⟩
theorem within_yes (n lo hi : Int) (w : World) (h1 : lo ≤ n) (h2 : n ≤ hi) :
    Calls Try.prog 73 #[.int .i64 n, .int .i64 lo, .int .i64 hi] w fun e w' => e = .returned (.bool true) ∧ w = w' :=
  (within_any n lo hi w).mono fun e w' ⟨he, hw⟩ => ⟨by rw [he]; simp [h1, h2], hw⟩
theorem within_no (n lo hi : Int) (w : World) (h : n < lo ∨ hi < n) :
    Calls Try.prog 73 #[.int .i64 n, .int .i64 lo, .int .i64 hi] w fun e w' => e = .returned (.bool false) ∧ w = w' :=
  (within_any n lo hi w).mono fun e w' ⟨he, hw⟩ => ⟨by
    rw [he]
    have : (decide (lo ≤ n) && decide (n ≤ hi)) = false := by
      rw [Bool.and_eq_false_iff, decide_eq_false_iff_not, decide_eq_false_iff_not]; omega
    rw [this], hw⟩
theorem quiet_eq {P : Program} {f : FuncId} {args : Array Value} {w : World} {n : Nat} {v : Value}
    (h : Calls P f args (w.drewN n) fun e w' => e = .returned v ∧ w.drewN n = w') : Calls P f args (w.drewN n) fun e w' => e = .returned v ∧ ∃ n', w' = w.drewN n' :=
  h.mono fun e w' ⟨h1, h2⟩ => ⟨h1, n, h2.symm⟩
theorem quiet_eq2 {P : Program} {f : FuncId} {args : Array Value} {w : World} {n x : Nat} {v : Value}
    (h : Calls P f args (w.drewN (n + x)) fun e w' => e = .returned v ∧ w.drewN (n + x) = w') : Calls P f args (w.drewN (n + x)) fun e w' => e = .returned v ∧ ∃ n', w' = w.drewN (n + n') :=
  h.mono fun e w' ⟨h1, h2⟩ => ⟨h1, x, h2.symm⟩
theorem below_quiet {B n : Nat} {w w' : World} (h : Below B w w') : Below B w (w'.drewN n) := ⟨h.os, h.tape, h.output, h.size, h.block⟩
structure BoxAt (H : Nat) (w : World) (x y z : Value) : Prop where
  c0 : w.cell? ⟨H, 0, none⟩ = some x
  c1 : w.cell? ⟨H, 1, none⟩ = some y
  c2 : w.cell? ⟨H, 2, none⟩ = some z
  lt : H < w.heap.size
theorem box_at {W w : World} {x y z : Value} {t : TypeId} {B : Nat} (h : Below B (W.alloc (.cells #[x, y, z] t)) w) (hB : B = W.heap.size + 1) : BoxAt W.heap.size w x y z := by
  subst hB
  have h' := h.size
  refine ⟨?_, ?_, ?_, ?_⟩
  · rw [h.cell (by simp)]; simp
  · rw [h.cell (by simp)]; simp
  · rw [h.cell (by simp)]; simp
  · simp at h'; omega

structure RowOK (m : Mac) (j : Nat) : Prop where
  len : ((rowOf m j).length : Int) = m.L
  el : ∀ a, a < (rowOf m j).length → 0 ≤ nth (rowOf m j) a ∧ nth (rowOf m j) a < m.nx.length
theorem mac_rows {m : Mac} (l1 : 1 ≤ m.L) (l6 : m.L ≤ 6) (n1 : 1 ≤ m.nx.length) (n64 : m.nx.length ≤ 64) (ac : m.ac.length = m.nx.length) (h : ∀ j, j < m.nx.length → RowOK m j) : MacOK m :=
  ⟨l1, l6, n1, n64, ac, fun j hj => (h j hj).len, fun j hj => (h j hj).el⟩
theorem row_of {m : Mac} (h : MacOK m) (j : Nat) (hj : j < m.nx.length) : RowOK m j := ⟨h.len j hj, h.el j hj⟩
theorem val_bad {m : Mac} (l1 : 1 ≤ m.L) (l6 : m.L ≤ 6) (n64 : m.nx.length ≤ 64) (h : ¬ MacOK m) : valE m = 1 := by
  unfold valE
  rw [if_neg (by omega), if_neg (by omega), if_neg h]
def outN (n : Nat) (x : Int) : Bool := decide (x < 0) || decide ((n : Int) ≤ x)
theorem outN_no {n : Nat} {x : Int} : outN n x = false ↔ 0 ≤ x ∧ x < n := by
  unfold outN
  rw [Bool.or_eq_false_iff, decide_eq_false_iff_not, decide_eq_false_iff_not]
  omega
theorem row_any {m : Mac} {j : Nat} (hl : ((rowOf m j).length : Int) = m.L) : anyI (outN m.nx.length) (rowOf m j) = false ↔ RowOK m j := by
  rw [anyI_no]
  constructor
  · intro h
    exact ⟨hl, fun a ha => outN_no.1 (h a ha)⟩
  · intro h a ha
    exact outN_no.2 (h.el a ha)

theorem clos72 (x : Int) (n H : Nat) (a : Option Addr) (cap : Nat) (w : World) (hc : w.cell? ⟨H, 1, none⟩ = some (.slice a n cap)) :
    Calls Try.prog 72 #[.int .i64 x, .pointer (some ⟨H, 0, none⟩)] w fun e w' => e = .returned (.bool (outN n x)) ∧ w = w' := by
  by_cases h1 : x < 0
  · go_enter Try.func72, Try.ntmps72
    go_wp2
    go_ret
    exact ⟨by simp [outN, h1], rfl⟩
  · go_enter Try.func72, Try.ntmps72
    go_wp2
    go_ret
    exact ⟨by simp [outN]; omega, rfl⟩
theorem fn72 (n H : Nat) (a : Option Addr) (cap : Nat) (w : World) (hc : w.cell? ⟨H, 1, none⟩ = some (.slice a n cap)) : Hid (FnP 72 #[] #[.pointer (some ⟨H, 0, none⟩)] (outN n) w) :=
  hid ⟨run_enter Try.func72 (by kernel_rfl) rfl, fun x => clos72 x n H a cap w hc⟩

set_option maxRecDepth 100000 in
set_option maxHeartbeats 4000000 in
theorem rValidate_any (m : Mac) (a a2 : Option Addr) (cap cap2 : Nat) (W : World) (hM : MacAt W a cap a2 cap2 m) :
    Calls Try.prog 28 #[.agg #[.int .i64 m.L, .slice a m.nx.length cap, .slice a2 m.ac.length cap2]] W fun e w' => e = .returned (.int .i64 (valE m)) ∧ Below W.heap.size W w' := by
  have hb0 := below_alloc W (.cells #[.int .i64 m.L, .slice a m.nx.length cap, .slice a2 m.ac.length cap2] 25)
  by_cases hL : 1 ≤ m.L ∧ m.L ≤ 6
  · have Hw := hid (fun w => within_yes m.L 1 6 w hL.1 hL.2)
    by_cases h64 : m.nx.length ≤ 64
    · have HB := hid (fun h => val_bad (m := m) hL.1 hL.2 h64 h)
      by_cases h1 : m.nx.length = 0 ∨ m.ac.length ≠ m.nx.length
      · have R := hid (HB.out fun h => by have := h.n1; have := h.ac; omega)
        by_cases hn0 : m.nx.length = 0
        · have dn : ((m.nx.length : Int) == 0) = true := by rw [hn0]; rfl
          have dm : (m.nx.length == 0) = true := by rw [hn0]; rfl
          clear hn0
          go_enter Try.func28, Try.ntmps28
          go_wp2_with fail
          refine (Hw.out _).mono ?_; rintro e w' ⟨rfl, rfl⟩
          go_wp2_with fail
          go_ret
          exact ⟨by rw [R.out]; rfl, hb0⟩
        · have dn : ((m.nx.length : Int) == 0) = false := beq_eq_false_iff_ne.2 (by omega)
          have dm : ((m.ac.length : Int) == (m.nx.length : Int)) = false := beq_eq_false_iff_ne.2 (by omega)
          have dm2 : (m.ac.length == m.nx.length) = false := beq_eq_false_iff_ne.2 (by omega)
          go_enter Try.func28, Try.ntmps28
          go_wp2_with fail
          refine (Hw.out _).mono ?_; rintro e w' ⟨rfl, rfl⟩
          go_wp2_with fail
          go_ret
          exact ⟨by rw [R.out]; rfl, hb0⟩
      · have dn : ((m.nx.length : Int) == 0) = false := beq_eq_false_iff_ne.2 (by omega)
        have dm : ((m.ac.length : Int) == (m.nx.length : Int)) = true := beq_iff_eq.2 (by omega)
        have dm2 : (m.ac.length == m.nx.length) = true := beq_iff_eq.2 (by omega)
        have hn1 : 1 ≤ m.nx.length := by omega
        have hac : Hid (m.ac.length = m.nx.length) := hid (by omega)
        have HM := hid (hM.below hb0)
        have HBz := hid hb0
        clear h1 hM hb0
        go_enter Try.func28, Try.ntmps28
        go_wp2_with fail
        refine (Hw.out _).mono ?_; rintro e w' ⟨rfl, rfl⟩
        go_wp2_with fail
        generalize hV : W.alloc (.cells #[.int .i64 m.L, .slice a m.nx.length cap, .slice a2 m.ac.length cap2] 25) = V at *
        have HV := hid hV
        clear hV
        go_loopw [3, 4] (fun v3 v4 w' => ∃ k : Nat, k ≤ m.nx.length ∧ v3 = .int .i64 k ∧ Hid (∀ j, j < k → RowOK m j) ∧ Below (W.heap.size + 1) V w') (fun v3 _ _ => m.nx.length - (intOf v3).toNat)
        case atStart => exact ⟨0, by omega, rfl, hid fun j hj => by omega, Below.refl _ _⟩
        case round =>
          obtain ⟨k, hk, rfl, HR, hb⟩ := hrel
          have hsz : V.heap.size = W.heap.size + 1 := by rw [← HV.out]; simp
          have hX := box_at (by rw [HV.out]; exact hb) rfl
          have x0 := hX.c0
          have x1 := hX.c1
          have xl := hX.lt
          have hMk := HM.out.below (by rw [hsz]; exact hb)
          have hbW : Below W.heap.size W wr := HBz.out.trans (hb.mono (by omega))
          have hsw : W.heap.size + 1 ≤ wr.heap.size := by have := hb.size; omega
          clear hX hsz
          by_cases hlt : k < m.nx.length
          · obtain ⟨b, off, rfl, hbl, ra, rc, hc, r1, r2, hI⟩ := hMk.nx k hlt
            have i1 : (0 : Int) ≤ (k : Int) := by omega
            have i2 : (k : Int) < (m.nx.length : Int) := by omega
            by_cases hlen : ((rowOf m k).length : Int) = m.L
            · have de : (((rowOf m k).length : Int) == m.L) = true := beq_iff_eq.2 hlen
              have hl6 : (rowOf m k).length ≤ 6 := by omega
              have Hlen := hid hlen
              have HBad : Hid (¬ RowOK m k → valE m = 1) := hid (fun h => HB.out fun hh => h (row_of hh k hlt))
              clear hlen
              go_wp2_with fail
              go_quiet (fail)
              go_wp2_with fail
              generalize hY : wr.drewN _ = Y
              have hbY : Below wr.heap.size wr Y := by rw [← hY]; exact below_quiet (Below.refl _ _)
              have hsY := hbY.size
              have hbq := hb.trans (hbY.mono (by omega))
              have hIq := hI.below hbY
              have xq0 := (hbY.cell (p := ⟨W.heap.size, 0, none⟩) xl).trans x0
              have xq1 := (hbY.cell (p := ⟨W.heap.size, 1, none⟩) xl).trans x1
              have hcq := (hbY.cell (p := ⟨b, off + k, none⟩) hbl).trans hc
              have hbWq := hbW.trans (hbY.mono hbW.size)
              have xlq : W.heap.size < Y.heap.size := by omega
              clear hb hI x0 x1 hc hbW xl hMk hY hbY hsY
              go_loopw [4] (fun v4 w' => ∃ j : Nat, j ≤ (rowOf m k).length ∧ v4 = .int .i64 j ∧ Hid (∀ i, i < j → 0 ≤ nth (rowOf m k) i ∧ nth (rowOf m k) i < m.nx.length) ∧ ∃ n, w' = Y.drewN n) (fun v4 _ => (rowOf m k).length - (intOf v4).toNat)
              case atStart => exact ⟨0, by omega, rfl, hid fun j hj => by omega, 0, rfl⟩
              case round =>
                obtain ⟨j, hj, rfl, HE, n, rfl⟩ := hrel
                by_cases hjl : j < (rowOf m k).length
                · obtain ⟨b', off', rfl, hbl', c1⟩ := hIq j hjl
                  have i3 : (0 : Int) ≤ (j : Int) := by omega
                  have i4 : (j : Int) < ((rowOf m k).length : Int) := by omega
                  have dj : decide ((j : Int) < m.L) = true := decide_eq_true (by rw [← Hlen.out]; omega)
                  have w1 : IntKind.i64.wrap ((m.nx.length : Int) - 1) = (m.nx.length : Int) - 1 := IntWalk.i64_in _ (by omega)
                  by_cases hin : 0 ≤ nth (rowOf m k) j ∧ nth (rowOf m k) j ≤ (m.nx.length : Int) - 1
                  · go_wp2_with fail
                    go_quiet ((go_at_call 73; exact quiet_eq2 (within_yes _ _ _ _ hin.1 hin.2)))
                    clear w1
                    go_wp2_with fail
                    go_roundw
                    case rel => exact ⟨j + 1, by omega, by go_num, hid fun i hi => by
                      by_cases e : i = j
                      · subst e; exact ⟨hin.1, by omega⟩
                      · exact HE.out i (by omega), _, rfl⟩
                    case measure => simp [intOf]; omega
                  · have R := hid (HBad.out fun h => hin ⟨(h.el j hjl).1, by have := (h.el j hjl).2; omega⟩)
                    have hin' : nth (rowOf m k) j < 0 ∨ (m.nx.length : Int) - 1 < nth (rowOf m k) j := by omega
                    clear hin
                    go_wp2_with fail
                    go_quiet ((go_at_call 73; exact quiet_eq2 (within_no _ _ _ _ hin')))
                    clear w1
                    go_wp2_with fail
                    go_ret
                    exact ⟨by rw [R.out]; rfl, below_quiet (below_quiet hbWq)⟩
                · have dj : decide ((j : Int) < m.L) = false := decide_eq_false (by rw [← Hlen.out]; omega)
                  have HRk : Hid (RowOK m k) := hid ⟨Hlen.out, fun i hi => HE.out i (by omega)⟩
                  go_wp2_with fail
                  go_roundw
                  case rel => exact ⟨k + 1, by omega, by go_num, hid fun i hi => by
                    by_cases e : i = k
                    · subst e; exact HRk.out
                    · exact HR.out i (by omega), below_quiet hbq⟩
                  case measure => simp [intOf]; omega
            · have de : (((rowOf m k).length : Int) == m.L) = false := beq_eq_false_iff_ne.2 hlen
              have R := hid (HB.out fun h => hlen (h.len k hlt))
              clear hlen
              go_wp2_with fail
              go_quiet (fail)
              go_wp2_with fail
              go_ret
              exact ⟨by rw [R.out]; rfl, below_quiet hbW⟩
          · obtain rfl : k = m.nx.length := by omega
            have R := hid (valE_ok (mac_rows hL.1 hL.2 hn1 h64 hac.out HR.out))
            go_wp2_with fail
            go_ret
            exact ⟨by rw [R.out]; rfl, hbW⟩
    · have d64 : decide ((64 : Int) < (m.nx.length : Int)) = true := decide_eq_true (by omega)
      have d64n : decide (64 < m.nx.length) = true := decide_eq_true (by omega)
      have R : Hid (valE m = 4) := hid (by unfold valE; rw [if_neg (by omega), if_pos (by omega)])
      go_enter Try.func28, Try.ntmps28
      go_wp2_with fail
      refine (Hw.out _).mono ?_; rintro e w' ⟨rfl, rfl⟩
      go_wp2_with fail
      go_ret
      exact ⟨by rw [R.out]; rfl, hb0⟩
  · have Hw := hid (fun w => within_no m.L 1 6 w (by omega))
    have R : Hid (valE m = 1) := hid (by unfold valE; rw [if_pos (by omega)])
    go_enter Try.func28, Try.ntmps28
    go_wp2_with fail
    refine (Hw.out _).mono ?_; rintro e w' ⟨rfl, rfl⟩
    go_wp2_with fail
    go_ret
    exact ⟨by rw [R.out]; rfl, hb0⟩

set_option maxRecDepth 100000 in
set_option maxHeartbeats 4000000 in
theorem Validate_any (m : Mac) (a a2 : Option Addr) (cap cap2 : Nat) (W : World) (hM : MacAt W a cap a2 cap2 m) :
    Calls Try.prog 27 #[.agg #[.int .i64 m.L, .slice a m.nx.length cap, .slice a2 m.ac.length cap2]] W fun e w' => e = .returned (.int .i64 (valE m)) ∧ Below W.heap.size W w' := by
  have hb0 := below_alloc W (.cells #[.int .i64 m.L, .slice a m.nx.length cap, .slice a2 m.ac.length cap2] 25)
  by_cases hL1 : m.L < 1
  · have R : Hid (valE m = 1) := hid (by unfold valE; rw [if_pos (by omega)])
    go_enter Try.func27, Try.ntmps27
    go_wp2_with fail
    go_ret
    exact ⟨by rw [R.out]; rfl, hb0⟩
  by_cases hL6 : 6 < m.L
  · have R : Hid (valE m = 1) := hid (by unfold valE; rw [if_pos (by omega)])
    go_enter Try.func27, Try.ntmps27
    go_wp2_with fail
    go_ret
    exact ⟨by rw [R.out]; rfl, hb0⟩
  by_cases h64 : m.nx.length ≤ 64
  · have HB := hid (fun h => val_bad (m := m) (by omega) (by omega) h64 h)
    by_cases h1 : m.nx.length = 0 ∨ m.ac.length ≠ m.nx.length
    · have R := hid (HB.out fun h => by have := h.n1; have := h.ac; omega)
      by_cases hn0 : m.nx.length = 0
      · have dn : ((m.nx.length : Int) == 0) = true := by rw [hn0]; rfl
        have dm : (m.nx.length == 0) = true := by rw [hn0]; rfl
        clear hn0
        go_enter Try.func27, Try.ntmps27
        go_wp2_with fail
        go_ret
        exact ⟨by rw [R.out]; rfl, hb0⟩
      · have dn : ((m.nx.length : Int) == 0) = false := beq_eq_false_iff_ne.2 (by omega)
        have dm : ((m.ac.length : Int) == (m.nx.length : Int)) = false := beq_eq_false_iff_ne.2 (by omega)
        have dm2 : (m.ac.length == m.nx.length) = false := beq_eq_false_iff_ne.2 (by omega)
        go_enter Try.func27, Try.ntmps27
        go_wp2_with fail
        go_ret
        exact ⟨by rw [R.out]; rfl, hb0⟩
    · have dn : ((m.nx.length : Int) == 0) = false := beq_eq_false_iff_ne.2 (by omega)
      have dm : ((m.ac.length : Int) == (m.nx.length : Int)) = true := beq_iff_eq.2 (by omega)
      have dm2 : (m.ac.length == m.nx.length) = true := beq_iff_eq.2 (by omega)
      have hn1 : 1 ≤ m.nx.length := by omega
      have hac : Hid (m.ac.length = m.nx.length) := hid (by omega)
      have HM := hid (hM.below hb0)
      have HBz := hid hb0
      clear h1 hM hb0
      go_enter Try.func27, Try.ntmps27
      go_wp2_with fail
      generalize hV : W.alloc (.cells #[.int .i64 m.L, .slice a m.nx.length cap, .slice a2 m.ac.length cap2] 25) = V at *
      have HV := hid hV
      clear hV
      have hX := box_at (by rw [HV.out]; exact Below.refl _ _) rfl
      have x0 := hX.c0
      have x1 := hX.c1
      have xl := hX.lt
      clear hX
      go_loop [4, 36] (fun v4 v36 => ∃ k : Nat, k ≤ m.nx.length ∧ v36 = .int .i64 k ∧ Hid (∀ j, j < k → RowOK m j)) (fun _ v36 => m.nx.length - (intOf v36).toNat)
      case atStart => exact ⟨0, by omega, rfl, hid fun j hj => by omega⟩
      case round =>
        obtain ⟨k, hk, rfl, HR⟩ := hrel
        by_cases hlt : k < m.nx.length
        · obtain ⟨b, off, rfl, hbl, ra, rc, hc, r1, r2, hI⟩ := HM.out.nx k hlt
          have i1 : (0 : Int) ≤ (k : Int) := by omega
          have i2 : (k : Int) < (m.nx.length : Int) := by omega
          by_cases hlen : ((rowOf m k).length : Int) = m.L
          · have de : (((rowOf m k).length : Int) == m.L) = true := beq_iff_eq.2 hlen
            have dne : (((rowOf m k).length : Int) != m.L) = false := by rw [bne, de]; rfl
            have HRA := hid (row_any hlen)
            have HBad : Hid (¬ RowOK m k → valE m = 1) := hid (fun h => HB.out fun hh => h (row_of hh k hlt))
            have Hc := hid (containsFunc_any 72 #[] #[.pointer (some ⟨W.heap.size, 0, none⟩)] (outN m.nx.length) (rowOf m k) ra rc V hI (by omega) (fn72 m.nx.length W.heap.size _ cap V x1))
            clear hlen
            cases hA : anyI (outN m.nx.length) (rowOf m k)
            · have HRk := hid (HRA.out.1 hA)
              rw [hA] at Hc
              clear hA HRA HBad
              go_wp2_with fail
              refine Hc.out.mono ?_; rintro e w' ⟨rfl, rfl⟩
              go_wp2_with fail
              go_round
              case rel => exact ⟨k + 1, by omega, by go_num, hid fun i hi => by
                by_cases e : i = k
                · subst e; exact HRk.out
                · exact HR.out i (by omega)⟩
              case measure => simp [intOf]; omega
            · have R := hid (HBad.out fun h => by rw [HRA.out.2 h] at hA; cases hA)
              rw [hA] at Hc
              clear hA HRA HBad
              go_wp2_with fail
              refine Hc.out.mono ?_; rintro e w' ⟨rfl, rfl⟩
              go_wp2_with fail
              go_ret
              exact ⟨by rw [R.out]; rfl, HBz.out⟩
          · have de : (((rowOf m k).length : Int) == m.L) = false := beq_eq_false_iff_ne.2 hlen
            have dne : (((rowOf m k).length : Int) != m.L) = true := by rw [bne, de]; rfl
            have R := hid (HB.out fun h => hlen (h.len k hlt))
            clear hlen
            go_wp2_with fail
            go_ret
            exact ⟨by rw [R.out]; rfl, HBz.out⟩
        · obtain rfl : k = m.nx.length := by omega
          have R := hid (valE_ok (mac_rows (by omega) (by omega) hn1 h64 hac.out HR.out))
          go_wp2_with fail
          go_ret
          exact ⟨by rw [R.out]; rfl, HBz.out⟩
  · have d64 : decide ((64 : Int) < (m.nx.length : Int)) = true := decide_eq_true (by omega)
    have d64n : decide (64 < m.nx.length) = true := decide_eq_true (by omega)
    have R : Hid (valE m = 4) := hid (by unfold valE; rw [if_neg (by omega), if_pos (by omega)])
    go_enter Try.func27, Try.ntmps27
    go_wp2_with fail
    go_ret
    exact ⟨by rw [R.out]; rfl, hb0⟩
end Go.Proofs.Ytmllbemjcfkmjaa
/- Tables of numbers that a call makes, row after row; how many words of a length are accepted, plainly. -/
namespace Go.Proofs.Ytmllbemjcfkmjaa
open Go.RowKit Go.Maps
set_option linter.unusedSimpArgs false
set_option linter.unusedVariables false

/-! ### in memory -/
structure TabI (V : World) (base N n : Nat) (f : Nat → Nat → Int) (v : Value) (g : Nat → Nat) (w : World) : Prop where
  bl : Below base V w
  own : w.ownsRow base 33 1 v n ((List.range n).map fun j => .slice (some ⟨g j, 0, none⟩) N N)
  rows : ∀ j, j < n → base ≤ g j ∧ w.rowIs (g j) 3 N (fun s => .int .i64 (f j s))
structure TabAt (w : World) (v : Value) (n N : Nat) (f : Nat → Nat → Int) (b cap : Nat) : Prop where
  eq : v = .slice (some ⟨b, 0, none⟩) n cap
  lt : b < w.heap.size
  row : ∀ k, k < n → ∃ gk, w.cell? ⟨b, k, none⟩ = some (.slice (some ⟨gk, 0, none⟩) N N) ∧ gk < w.heap.size ∧ ∀ s, s < N → w.cell? ⟨gk, s, none⟩ = some (.int .i64 (f k s))
section
variable {V w w' : World} {base N n : Nat} {f : Nat → Nat → Int} {v v' : Value} {g : Nat → Nat} {o : Obj}
theorem TabI.below (h : TabI V base N n f v g w) (hsz : base ≤ w.heap.size) (hb : Below w.heap.size w w') : TabI V base N n f v g w' :=
  ⟨h.bl.trans (hb.mono hsz), own_below h.own hb, fun j hj => ⟨(h.rows j hj).1, rowIs_below (h.rows j hj).2 hb (h.rows j hj).2.lt⟩⟩
theorem own_row_ne {b : Nat} {fv : Nat → Value} {xs : List Value} {t e : TypeId} (h : w.rowIs b t N fv) (ho : w.ownsRow base e 1 v n xs) (hne : e ≠ t) : v.ownBlock ≠ some b := by
  intro he
  obtain ⟨c, hb, _⟩ := h
  rcases ho.2 with ⟨rfl, _⟩ | ⟨q, cap, cur, rfl, _, hg, _⟩
  · simp [Value.ownBlock] at he
  · simp [Value.ownBlock] at he
    subst he
    rw [hb] at hg
    cases hg
    exact hne rfl
theorem row_kept {b : Nat} {fv : Nat → Value} {xs : List Value} {t e : TypeId} (h : w.rowIs b t N fv) (ho : w.ownsRow base e 1 v n xs) (hne : e ≠ t) (hg : (w.alloc o).grownBy w' v.ownBlock) : w'.rowIs b t N fv :=
  (h.alloc o).of_block (hg.block b (h.alloc o).lt fun e' => own_row_ne h ho hne e'.symm)
theorem TabI.push (h : TabI V base N n f v g w) (hsz : base ≤ w.heap.size) {gn : Nat} (hbg : base ≤ gn) (hr : w.rowIs gn 3 N (fun s => .int .i64 (f n s))) (hg : (w.alloc o).grownBy w' v.ownBlock)
    (ho : w'.ownsRow base 33 1 v' (n + 1) ((List.range n).map (fun j => .slice (some ⟨g j, 0, none⟩) N N) ++ [.slice (some ⟨gn, 0, none⟩) N N])) :
    TabI V base N (n + 1) f v' (fun j => if j = n then gn else g j) w' := by
  refine ⟨(h.bl.alloc hsz o).grown hg (by simp; omega) fun k hk => (h.own.lt k hk).1, ?_, fun j hj => ?_⟩
  · have e : (List.range (n + 1)).map (fun j => Value.slice (some ⟨if j = n then gn else g j, 0, none⟩) N N) = (List.range n).map (fun j => .slice (some ⟨g j, 0, none⟩) N N) ++ [.slice (some ⟨gn, 0, none⟩) N N] := by
      rw [List.range_succ, List.map_append]
      simp only [List.map_cons, List.map_nil, if_true]
      congr 1
      refine List.map_congr_left fun j hj => ?_
      have := List.mem_range.1 hj
      rw [if_neg (by omega)]
    rw [e]
    exact ho
  · by_cases e : j = n
    · subst e
      simp only [if_true]
      exact ⟨hbg, row_kept hr h.own (by decide) hg⟩
    · simp only [e, if_false]
      have hj' : j < n := by omega
      exact ⟨(h.rows j hj').1, row_kept (h.rows j hj').2 h.own (by decide) hg⟩
theorem TabI.at (h : TabI V base N n f v g w) (hn : 0 < n) : ∃ b cap, TabAt w v n N f b cap := by
  obtain ⟨b, cap, rfl, hlt, _⟩ := own_cell h.own 0 hn
  refine ⟨b, cap, rfl, hlt, fun k hk => ?_⟩
  obtain ⟨b', cap', e, _, hc⟩ := own_cell h.own k hk
  cases e
  refine ⟨g k, ?_, (h.rows k hk).2.lt, fun s hs => (h.rows k hk).2.cell hs⟩
  rw [hc]
  simp [hk]
theorem TabAt.below {b cap : Nat} (h : TabAt w v n N f b cap) (hb : Below w.heap.size w w') : TabAt w' v n N f b cap := by
  have := hb.size
  refine ⟨h.eq, Nat.lt_of_lt_of_le h.lt this, fun k hk => ?_⟩
  obtain ⟨gk, h1, h2, h3⟩ := h.row k hk
  refine ⟨gk, (hb.cell (p := ⟨b, k, none⟩) h.lt).trans h1, by omega, fun s hs => (hb.cell (p := ⟨gk, s, none⟩) h2).trans (h3 s hs)⟩
end

/-! ### how many words -/
def cnt (m : Mac) : Nat → Int → Int
  | 0, s => if accM m s then 1 else 0
  | k + 1, s => sumTo (fun a => cnt m k (stepM m s a)) m.L.toNat
def six : Nat → Int
  | 0 => 1
  | k + 1 => 6 * six k
theorem six_pos (k : Nat) : 1 ≤ six k := by
  induction k with
  | zero => decide
  | succ k ih => simp only [six]; omega
theorem six_le {k : Nat} (h : k ≤ 20) : six k ≤ 3656158440062976 := by
  have : ∀ k, k ≤ 20 → six k ≤ 3656158440062976 := by decide
  exact this k h
theorem cnt_bd (m : Mac) (h6 : m.L ≤ 6) (k : Nat) : ∀ s, 0 ≤ cnt m k s ∧ cnt m k s ≤ six k := by
  induction k with
  | zero => intro s; simp only [cnt, six]; split <;> omega
  | succ k ih =>
    intro s
    have := sumTo_bd (fun a => cnt m k (stepM m s a)) (six k) m.L.toNat fun d _ => ih _
    simp only [cnt, six]
    refine ⟨this.1, Int.le_trans this.2 (Int.mul_le_mul_of_nonneg_right (by omega) (by have := six_pos k; omega))⟩
def cntI (m : Mac) (k s : Nat) : Int := cnt m k (s : Int)
/-- A row on its way: the states below s are done, of state s the letters below a. -/
def ptC (m : Mac) (k s a i : Nat) : Int := if i < s then cntI m (k + 1) i else if i = s then sumTo (fun b => cnt m k (stepM m (s : Int) b)) a else 0
theorem ptC_bd (m : Mac) (h6 : m.L ≤ 6) (k s a : Nat) (ha : a ≤ m.L.toNat) : 0 ≤ ptC m k s a s ∧ ptC m k s a s ≤ 6 * six k := by
  have := sumTo_bd (fun b => cnt m k (stepM m (s : Int) b)) (six k) a fun d _ => cnt_bd m h6 k _
  unfold ptC
  rw [if_neg (by omega), if_pos rfl]
  refine ⟨this.1, Int.le_trans this.2 (Int.mul_le_mul_of_nonneg_right (by omega) (by have := six_pos k; omega))⟩
section
variable {w : World} {b N : Nat} {m : Mac} {k s a : Nat}
theorem ptC_zero (h : w.rowIs b 3 N (fun _ => .int .i64 0)) : w.rowIs b 3 N (rowI (ptC m k 0 0)) := h.congr fun i _ => by
  unfold rowI ptC
  rw [if_neg (by omega)]
  split <;> rfl
theorem ptC_step (h : w.rowIs b 3 N (rowI (ptC m k s a))) {t : Int} (ht : t = stepM m (s : Int) a) : (w.setCell ⟨b, s, none⟩ (.int .i64 (ptC m k s a s + cnt m k t))).rowIs b 3 N (rowI (ptC m k s (a + 1))) := by
  subst ht
  refine (h.set s _).congr fun i _ => ?_
  unfold rowI ptC
  by_cases e : i = s
  · subst e; simp [sumTo]
  · simp [e]
theorem ptC_next (h : w.rowIs b 3 N (rowI (ptC m k s a))) (ha : a = m.L.toNat) : w.rowIs b 3 N (rowI (ptC m k (s + 1) 0)) := h.congr fun i _ => by
  subst ha
  unfold rowI ptC
  by_cases e : i = s
  · subst e
    rw [if_neg (by omega), if_pos rfl, if_pos (by omega)]
    rfl
  · by_cases e2 : i < s
    · rw [if_pos e2, if_pos (by omega)]
    · rw [if_neg e2, if_neg e, if_neg (by omega)]
      split <;> rfl
theorem ptC_end (h : w.rowIs b 3 N (rowI (ptC m k N 0))) : w.rowIs b 3 N (fun s => .int .i64 (cntI m (k + 1) s)) := h.congr fun i hi => by
  unfold rowI ptC
  rw [if_pos hi]
theorem bit_cnt (h : w.rowIs b 3 N (rowI (bitN (fun s => accM m (s : Int)) N))) : w.rowIs b 3 N (fun s => .int .i64 (cntI m 0 s)) := h.congr fun i hi => by
  unfold rowI bitN cntI
  simp only [cnt]
  simp [hi]
end
end Go.Proofs.Ytmllbemjcfkmjaa
