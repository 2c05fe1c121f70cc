/- 'slices.IndexFunc' and 'slices.DeleteFunc' at the closure of 'Halving': what they return and write. -/
import Derived.Test.YtedgndangamkaaaHalveLaw
import Derived.Test.YtedgndangamkaaaLearn
import Derived.Lib.SliceRun
import Derived.Lib.LazyBuf
namespace Go.Proofs.Ytedgndangamkaaa
open Go.RowKit
set_option linter.unusedSimpArgs false
set_option linter.unusedVariables false

/-- What is kept of the first j elements. -/
def kp (q : Int → Bool) (xs : List Int) (j : Nat) : List Int := (xs.take j).filter q
theorem take_more (xs : List Int) (j : Nat) (h : j < xs.length) : xs.take (j + 1) = xs.take j ++ [nth xs j] := by
  rw [List.take_succ_eq_append_getElem h]; simp [nth, List.getD, h]
theorem kp_yes (q : Int → Bool) (xs : List Int) (j : Nat) (h : j < xs.length) (hq : q (nth xs j) = true) : kp q xs (j + 1) = kp q xs j ++ [nth xs j] := by
  unfold kp; rw [take_more xs j h, List.filter_append]; simp [List.filter_cons, hq]
theorem kp_no (q : Int → Bool) (xs : List Int) (j : Nat) (h : j < xs.length) (hq : q (nth xs j) = false) : kp q xs (j + 1) = kp q xs j := by
  unfold kp; rw [take_more xs j h, List.filter_append]; simp [List.filter_cons, hq]
theorem kp_all (q : Int → Bool) (xs : List Int) : kp q xs xs.length = xs.filter q := by unfold kp; rw [List.take_length]
theorem kp_len (q : Int → Bool) (xs : List Int) (j : Nat) : (kp q xs j).length ≤ j := by
  unfold kp
  have h1 := List.length_filter_le q (xs.take j)
  have h2 := List.length_take_le j xs
  omega
theorem nth_take (xs : List Int) (j i : Nat) (h : i < j) : nth (xs.take j) i = nth xs i := by simp [nth, List.getD, h]
theorem kp_pre (q : Int → Bool) (xs : List Int) (k : Nat) (hk : k ≤ xs.length) (h : ∀ j, j < k → q (nth xs j) = true) : kp q xs k = xs.take k := by
  induction k with
  | zero => simp [kp]
  | succ k ih => rw [kp_yes q xs k (by omega) (h k (by omega)), ih (by omega) (fun j hj => h j (by omega)), take_more xs k (by omega)]
theorem nth_app (xs : List Int) (x : Int) (t : Nat) : nth (xs ++ [x]) t = if t < xs.length then nth xs t else if t = xs.length then x else 0 := by
  unfold nth
  rw [List.getD, List.getD, List.getElem?_append]
  by_cases h : t < xs.length
  · simp [h]
  · by_cases h2 : t = xs.length
    · subst h2; simp
    · obtain ⟨m, hm⟩ : ∃ m, t - xs.length = m + 1 := ⟨t - xs.length - 1, by omega⟩
      simp [h, h2, hm]

/-- What the search returns. -/
def IdxPost (p : Int → Bool) (xs : List Int) (W : World) (e : Ending) (w' : World) : Prop :=
  (∃ n, w' = W.drewN n) ∧ ((∃ k : Nat, k < xs.length ∧ e = .returned (.int .i64 k) ∧ p (nth xs k) = true ∧ ∀ j, j < k → p (nth xs j) = false) ∨ (e = .returned (.int .i64 (-1)) ∧ ∀ j, j < xs.length → p (nth xs j) = false))
/-- The closure at each element, in each world that differs by draws. -/
def ClosAt (p : Int → Bool) (r : Option Addr) (xs : List Int) (W : World) : Prop :=
  ∀ n i, i < xs.length → Calls Try.prog 68 #[.int .i64 (nth xs i), .pointer r] (W.drewN n) fun e w2 => e = .returned (.bool (p (nth xs i))) ∧ ∃ m, w2 = W.drewN m
set_option maxHeartbeats 1000000 in
theorem indexFunc_any (p : Int → Bool) (r : Option Addr) (xs : List Int) (a : Option Addr) (cap : Nat) (W : World) (hI : IntsAt W a xs) (hl : xs.length ≤ 8) (hC : ClosAt p r xs W) :
    Calls Try.prog 78 #[.slice a xs.length cap, .func (.func 68) #[] #[.pointer r]] W (IdxPost p xs W) := by
  have HC := hid hC
  clear hC
  go_enter Try.func78, Try.ntmps78
  go_wp2_with fail
  go_loopw [5, 8] (fun v5 v8 w' => ∃ k n : Nat, k ≤ xs.length ∧ v8 = .int .i64 k ∧ w' = W.drewN n ∧ Hid (∀ j, j < k → p (nth xs j) = false)) (fun _ v8 _ => xs.length - (intOf v8).toNat)
  case atStart => exact ⟨0, 0, by omega, rfl, rfl, hid fun j hj => by omega⟩
  case round =>
    obtain ⟨k, n, hk, rfl, rfl, hno⟩ := hrel
    by_cases hlt : k < xs.length
    · obtain ⟨b, off, rfl, hbl, c1⟩ := hI k hlt
      have Hc := hid (HC.out n k hlt)
      cases hp : p (nth xs k)
      · rw [hp] at Hc
        go_wp2_with fail
        refine Hc.out.mono ?_; rintro e w2 ⟨rfl, m, rfl⟩
        go_wp2_with fail
        go_roundw
        case rel => exact ⟨k + 1, m, by omega, by go_num, rfl, hid fun j hj => by
          by_cases e : j = k
          · subst e; exact hp
          · exact hno.out j (by omega)⟩
        case measure => simp [intOf]; omega
      · rw [hp] at Hc
        go_wp2_with fail
        refine Hc.out.mono ?_; rintro e w2 ⟨rfl, m, rfl⟩
        go_wp2_with fail
        go_ret
        exact ⟨⟨m, rfl⟩, .inl ⟨k, hlt, rfl, hp, hno.out⟩⟩
    · obtain rfl : k = xs.length := by omega
      go_wp2_with fail
      go_ret
      exact ⟨⟨n, rfl⟩, .inr ⟨rfl, hno.out⟩⟩

theorem but_setCells {a : World} {g : Nat} : ∀ (vs : List Value) (o : Nat) (w : World), a.grownBy w (some g) → a.grownBy (w.setCells g o vs) (some g)
  | [], _, _, h => h
  | v :: r, o, w, h => but_setCells r (o + 1) _ (but_store h o v)
theorem rowIs_drewN {w : World} {b : Nat} {t : TypeId} {n : Nat} {f : Nat → Value} (h : w.rowIs b t n f) (k : Nat) : (w.drewN k).rowIs b t n f := h
theorem ints_row {w : World} {B n : Nat} {F : Nat → Int} {xs : List Int} (h : w.rowIs B 3 n (fun i => .int .i64 (F i))) (hF : ∀ i, i < xs.length → F i = nth xs i) (hn : xs.length ≤ n) : IntsAt w (some ⟨B, 0, none⟩) xs := by
  intro i hi
  refine ⟨B, 0, rfl, h.lt, ?_⟩
  rw [Nat.zero_add, h.cell (i := i) (by omega), hF i hi]
def DelPost (ys : List Int) (B n : Nat) (W : World) (e : Ending) (w' : World) : Prop :=
  ∃ F : Nat → Int, e = .returned (.slice (some ⟨B, 0, none⟩) ys.length n) ∧ (∀ i, i < ys.length → F i = nth ys i) ∧ w'.rowIs B 3 n (fun i => .int .i64 (F i)) ∧ W.grownBy w' (some B)
set_option maxRecDepth 100000 in
set_option maxHeartbeats 2000000 in
theorem deleteFunc_any (p : Int → Bool) (r : Option Addr) (xs : List Int) (B n : Nat) (F : Nat → Int) (W : World) (hr : W.rowIs B 3 n (fun i => .int .i64 (F i))) (hF : ∀ i, i < xs.length → F i = nth xs i) (hn : xs.length ≤ n) (hl : n ≤ 8)
    (hC : ∀ w', W.grownBy w' (some B) → ClosAt p r xs w') :
    Calls Try.prog 67 #[.slice (some ⟨B, 0, none⟩) xs.length n, .func (.func 68) #[] #[.pointer r]] W (DelPost (xs.filter fun x => !p x) B n W) := by
  have Hi := hid (indexFunc_any p r xs (some ⟨B, 0, none⟩) n W (ints_row hr hF hn) (by omega) (hC W (World.grownBy.refl _ _)))
  have HC := hid hC
  have HF := hid hF
  clear hC hF
  go_enter Try.func67, Try.ntmps67
  go_wp2_with fail
  refine Hi.out.mono ?_; rintro e w1 ⟨⟨m, rfl⟩, ⟨k, hk, rfl, hpk, hno⟩ | ⟨rfl, hno⟩⟩
  · have hkp : kp (fun x => !p x) xs (k + 1) = xs.take k := by
      rw [kp_no _ _ _ hk (by simp [hpk]), kp_pre _ _ _ (by omega) fun j hj => by simp [hno j hj]]
    have Hkp := hid hkp
    have Hno := hid hno
    have Hpk := hid hpk
    clear hkp hno hpk
    have hk1 : ((k : Int) == -1) = false := beq_eq_false_iff_ne.2 (by omega)
    go_wp2_with fail
    go_loopw [5, 6] (fun v5 v6 w' => ∃ (j : Nat) (G : Nat → Int), j ≤ xs.length ∧ v6 = .int .i64 j ∧ v5 = .int .i64 ((kp (fun x => !p x) xs j).length : Nat) ∧ (kp (fun x => !p x) xs j).length < j ∧ Hid (∀ t, t < (kp (fun x => !p x) xs j).length → G t = nth (kp (fun x => !p x) xs j) t) ∧ Hid (∀ t, j ≤ t → t < xs.length → G t = nth xs t) ∧ w'.rowIs B 3 n (fun i => .int .i64 (G i)) ∧ W.grownBy w' (some B)) (fun _ v6 _ => xs.length - (intOf v6).toNat)
    case atStart =>
      have el : (kp (fun x => !p x) xs (k + 1)).length = k := by rw [Hkp.out]; simp; omega
      exact ⟨k + 1, F, by omega, by go_num, by rw [el], by rw [el]; omega, hid fun t ht => by rw [el] at ht; rw [Hkp.out, nth_take _ _ _ ht]; exact HF.out t (by omega), hid fun t _ ht => HF.out t ht, hr, but_drewN (World.grownBy.refl _ _) _⟩
    case round =>
      obtain ⟨j, G, hj, rfl, rfl, hij, h1, h2, hr', hg⟩ := hrel
      clear Hkp
      by_cases hlt : j < xs.length
      · have c1 := hr'.cell (i := j) (by omega)
        rw [h2.out j (Nat.le_refl _) hlt] at c1
        have ci := hr'.cell (i := (kp (fun x => !p x) xs j).length) (by omega)
        have fi := hr'.frozen (kp (fun x => !p x) xs j).length
        have hc : Calls Try.prog 68 #[.int .i64 (nth xs j), .pointer r] wr fun e w2 => e = .returned (.bool (p (nth xs j))) ∧ ∃ m, w2 = wr.drewN m := HC.out wr hg 0 j hlt
        have Hc := hid hc
        clear hc
        cases hp : p (nth xs j)
        · rw [hp] at Hc
          have HK := hid (kp_yes (fun x => !p x) xs j hlt (by simp [hp]))
          go_wp2_with fail
          refine Hc.out.mono ?_; rintro e w2 ⟨rfl, m2, rfl⟩
          go_wp2_with fail
          go_roundw
          case rel =>
            have el : (kp (fun x => !p x) xs (j + 1)).length = (kp (fun x => !p x) xs j).length + 1 := by rw [HK.out]; simp
            refine ⟨j + 1, fun t => if t = (kp (fun x => !p x) xs j).length then nth xs j else G t, by omega, by go_num, by rw [el]; go_num, by rw [el]; omega, hid fun t ht => ?_, hid fun t ht1 ht2 => ?_, ((rowIs_drewN hr' m2).set _ _).congr fun t _ => ?_, but_store (but_drewN hg m2) _ _⟩
            · rw [el] at ht
              rw [HK.out, nth_app]
              show (if t = (kp (fun x => !p x) xs j).length then nth xs j else G t) = _
              by_cases e : t = (kp (fun x => !p x) xs j).length
              · rw [if_pos e, if_neg (by omega), if_pos e]
              · rw [if_neg e, if_pos (by omega)]; exact h1.out t (by omega)
            · show (if t = (kp (fun x => !p x) xs j).length then nth xs j else G t) = _
              rw [if_neg (by omega)]; exact h2.out t (by omega) ht2
            · show _ = Value.int .i64 (if t = (kp (fun x => !p x) xs j).length then nth xs j else G t)
              split <;> rfl
          case measure => simp [intOf]; omega
        · rw [hp] at Hc
          have HK := hid (kp_no (fun x => !p x) xs j hlt (by simp [hp]))
          go_wp2_with fail
          refine Hc.out.mono ?_; rintro e w2 ⟨rfl, m2, rfl⟩
          go_wp2_with fail
          go_roundw
          case rel => exact ⟨j + 1, G, by omega, by go_num, by rw [HK.out], by rw [HK.out]; omega, hid (by rw [HK.out]; exact h1.out), hid fun t ht1 ht2 => h2.out t (by omega) ht2, rowIs_drewN hr' m2, but_drewN hg m2⟩
          case measure => simp [intOf]; omega
      · obtain rfl : j = xs.length := by omega
        rw [kp_all] at hij h1 ⊢
        have hcl : ∀ ty, (Builtin.clear_ #[27] ty #[.slice (some ⟨B, (xs.filter fun x => !p x).length, none⟩) (xs.length - (xs.filter fun x => !p x).length) (n - (xs.filter fun x => !p x).length)]).run Try.prog wr = .ok (.tuple #[]) (wr.setCells B (xs.filter fun x => !p x).length (List.replicate (xs.length - (xs.filter fun x => !p x).length) (.int .i64 0))) :=
          fun ty => Lib.run_clear_slice wr 27 3 ty _ Try.underlying27 (fun _ => by kernel_rfl) rfl rfl B _ _ _ (by omega) (fun t ht => by rw [hr'.cell (by omega)]; rfl) (fun t ht => hr'.frozen _)
        have hne : ¬ n = (xs.filter fun x => !p x).length := by omega
        go_wp2_with fail
        go_ret
        refine ⟨fun t => if (xs.filter fun x => !p x).length ≤ t ∧ t < xs.length then 0 else G t, rfl, fun i hi => ?_, (rowIs_setCells _ _ _ _ hr').congr fun t _ => ?_, but_setCells _ _ _ hg⟩
        · show (if (xs.filter fun x => !p x).length ≤ i ∧ i < xs.length then 0 else G i) = _
          rw [if_neg (by omega)]; exact h1.out i hi
        · rw [List.length_replicate]
          show _ = Value.int .i64 (if (xs.filter fun x => !p x).length ≤ t ∧ t < xs.length then 0 else G t)
          by_cases e : (xs.filter fun x => !p x).length ≤ t ∧ t < xs.length
          · rw [if_pos (by omega), if_pos e]
            rw [List.getElem?_replicate, if_pos (by omega)]; rfl
          · rw [if_neg (by omega), if_neg e]
  · have hall : (xs.filter fun x => !p x) = xs := by
      rw [← kp_all, kp_pre _ _ _ (Nat.le_refl _) fun j hj => by simp [hno j hj], List.take_length]
    have Hall := hid hall
    clear hall hno
    go_wp2_with fail
    go_ret
    rw [Hall.out]
    exact ⟨F, rfl, HF.out, rowIs_drewN hr m, but_drewN (World.grownBy.refl _ _) _⟩
end Go.Proofs.Ytedgndangamkaaa
