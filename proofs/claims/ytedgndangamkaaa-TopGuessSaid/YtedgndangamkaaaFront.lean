/- The beginning of a game, copied into new memory. -/
import Derived.Test.YtedgndangamkaaaLawSays
namespace Go.Proofs.Ytedgndangamkaaa
open Go.RowKit
set_option linter.unusedSimpArgs false
set_option linter.unusedVariables false

theorem info49 : (Try.prog.info? 49).map (fun i => (i.zero, i.size, i.bytes)) = some (some (.agg #[.slice none 0 0, .bool false]), 2, 32) := by kernel_rfl
def rcell (W : World) (b off n : Nat) : List Value := (List.range n).map fun j => (W.cell? ⟨b, off + j, none⟩).getD undef
theorem rcell_len (W : World) (b off n : Nat) : (rcell W b off n).length = n := by simp [rcell]
theorem rcell_at (W : World) (b off n j : Nat) (h : j < n) : (rcell W b off n)[j]? = some ((W.cell? ⟨b, off + j, none⟩).getD undef) := by simp [rcell, h]
theorem game_cell {W : World} {b off : Nat} {g : List Rd} {k j : Nat} (hG : GameAt W (some ⟨b, off, none⟩) g) (hk : k ≤ g.length) (hj : j < k * 2) :
    ∃ u, W.cell? ⟨b, off + j, none⟩ = some u ∧ u.oneCell' = true := by
  obtain ⟨b', off', aa, c, e, _, h1, h2, _⟩ := hG (j / 2) (by omega)
  cases e
  rcases Nat.mod_two_eq_zero_or_one j with h | h
  · rw [show off + j = off + j / 2 * 2 by omega]
    exact ⟨_, h1, rfl⟩
  · rw [show off + j = off + j / 2 * 2 + 1 by omega]
    exact ⟨_, h2, rfl⟩
theorem game_news {W w1 : World} {b off : Nat} {g : List Rd} {k : Nat} (hG : GameAt W (some ⟨b, off, none⟩) g) (hk : k ≤ g.length) (hlt : b < W.heap.size) (hb : Below W.heap.size W w1) :
    ∀ j u, (rcell W b off (k * 2))[j]? = some u → w1.cell? ((⟨b, off, none⟩ : Addr).add j) = some u := by
  intro j u hu
  have hj : j < k * 2 := by
    have := (List.getElem?_eq_some_iff.1 hu).1
    rw [rcell_len] at this
    exact this
  rw [rcell_at _ _ _ _ _ hj] at hu
  obtain ⟨v, hv, _⟩ := game_cell hG hk hj
  rw [hv] at hu
  rw [add_plain0, hb.cell (p := ⟨b, off + j, none⟩) hlt, hv]
  simpa using hu
theorem game_one {W : World} {b off : Nat} {g : List Rd} {k : Nat} (hG : GameAt W (some ⟨b, off, none⟩) g) (hk : k ≤ g.length) : ∀ u ∈ rcell W b off (k * 2), u.oneCell' = true := by
  intro u hu
  obtain ⟨j, hj, rfl⟩ := List.mem_map.1 hu
  have hj' : j < k * 2 := by simpa using hj
  obtain ⟨v, hv, h1⟩ := game_cell hG hk hj'
  rw [hv]
  exact h1
theorem game_front {W w1 : World} {b off : Nat} {g : List Rd} {k B : Nat} {v : Value} (hG : GameAt W (some ⟨b, off, none⟩) g) (hk : k ≤ g.length) (hb : Below W.heap.size W w1) (hown : w1.ownsRow B 49 2 v k (rcell W b off (k * 2))) :
    ∃ a c, v = .slice a k c ∧ GameAt w1 a (g.take k) ∧ k ≤ c ∧ c ≤ maxLen := by
  obtain ⟨_, h2⟩ := hown
  rcases h2 with ⟨rfl, h0⟩ | ⟨gb, cap, cur, rfl, hbb, hg, hn, hcm, hcs, htake⟩
  · subst h0
    exact ⟨none, 0, rfl, fun i hi => by simp at hi, by omega, Nat.zero_le _⟩
  · refine ⟨some ⟨gb, 0, none⟩, cap, rfl, fun i hi => ?_, hn, hcm⟩
    have hi' : i < k := by simp at hi; omega
    obtain ⟨b', off', aa, c, e, hlt, h1, h2, h3, h4, h5⟩ := hG i (by omega)
    cases e
    have key : ∀ j, j < k * 2 → w1.cell? ⟨gb, 0 + j, none⟩ = some ((W.cell? ⟨b, off + j, none⟩).getD undef) := by
      intro j hj
      rw [cell_of_row w1 gb (0 + j) cur 49 (0, 0) hg, Nat.zero_add]
      have e : (cur.toList.take (k * 2))[j]? = (rcell W b off (k * 2))[j]? := by rw [htake]
      rw [List.getElem?_take, if_pos (by omega), rcell_at _ _ _ _ _ hj] at e
      rw [← Array.getElem?_toList, e]
    have k1 := key (i * 2) (by omega)
    have k2 := key (i * 2 + 1) (by omega)
    rw [h1] at k1
    rw [show off + (i * 2 + 1) = off + i * 2 + 1 by omega, h2] at k2
    rw [adv_take g k i hi', came_take g k i hi']
    exact ⟨gb, 0, aa, c, rfl, (Array.getElem?_eq_some_iff.1 hg).1, by simpa using k1, by simpa [Nat.add_assoc] using k2, h3.below hb, h4, h5⟩
/-- A remainder by a length. -/
theorem mod_at (x : Int) (n : Nat) (h : 0 < n) (hn : n ≤ 24) : ∃ j : Nat, j < n ∧ wrap64 ((IntKind.u64.wrap x).tmod (n : Int)) = j := by
  have h0 : 0 ≤ IntKind.u64.wrap x := by rw [IntKind.wrap_u64]; omega
  rw [Int.tmod_eq_emod_of_nonneg h0]
  generalize IntKind.u64.wrap x = y at *
  have h1 := Int.emod_nonneg y (b := (n : Int)) (by omega)
  have h2 := Int.emod_lt_of_pos y (b := (n : Int)) (by omega)
  refine ⟨(y % (n : Int)).toNat, by omega, ?_⟩
  rw [w64 (by omega) (by omega)]
  omega
theorem say_front {g : List Rd} (hok : GOK g) (j : Nat) (hj : j < g.length) : sayR (g.take j) (adv g j) = saidB g j ∧ sayE (g.take j) (adv g j) = 0 := by
  have he := hok.el j hj
  have hs : SayOK (g.take j) (adv g j) := ⟨gok_take hok j, he.2.1, he.2.2, fun h => by
    have : 0 < j := by simp at h; omega
    rw [adv_take g j 0 this, he.1]⟩
  exact ⟨by rw [sayR, if_pos hs, say_take g j hj], by simp [sayE, vE_ok (gok_take hok j), hs]⟩
theorem pl_front {g : List Rd} (hok : GOK g) (j : Nat) (hj : j ≤ g.length) (h0 : 0 < j) : plE (g.take j) = 0 := plE_ok (gok_take hok j) (by rw [List.length_take]; omega)
theorem wrg_mono (g : List Rd) (a k m : Nat) (h : k ≤ m) : wrg g a k ≤ wrg g a m := by
  induction m with
  | zero => rw [Nat.le_zero.1 h]; exact Nat.le_refl _
  | succ m ih =>
    by_cases e : k = m + 1
    · subst e; exact Nat.le_refl _
    · have := ih (by omega)
      simp only [wrg]; omega
theorem wt_mono (k m : Nat) (h : k ≤ m) : wt m ≤ wt k := by
  rw [wt_nat, wt_nat]
  have : 2 ^ (24 - m) ≤ 2 ^ (24 - k) := Nat.pow_le_pow_right (by omega) (by omega)
  omega
theorem wl_front (g : List Rd) (j i : Nat) (hj : j ≤ g.length) (h0 : 0 < j) (hi : i < (adv g 0).length) : nth (wl g) i ≤ nth (wl (g.take j)) i := by
  have e : adv (g.take j) 0 = adv g 0 := adv_take g j 0 h0
  rw [wl_at g i hi, wl_at (g.take j) i (by rw [e]; exact hi), wts, wts]
  have el : (g.take j).length = j := by simp; omega
  rw [el, wr_take g i j j (Nat.le_refl _)]
  exact wt_mono _ _ (wrg_mono g i j g.length hj)
theorem wl_front_len (g : List Rd) (j : Nat) (h0 : 0 < j) : (wl (g.take j)).length = (adv g 0).length := by rw [wl_len, adv_take g j 0 h0]
end Go.Proofs.Ytedgndangamkaaa
