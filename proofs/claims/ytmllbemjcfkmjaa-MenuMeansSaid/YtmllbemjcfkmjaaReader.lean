/- A machine's reader, its steps, and the state behind a word: what they return. -/
import Derived.Test.YtmllbemjcfkmjaaRankLaw
import Derived.Laws.EntriesVeiled
namespace Go.Proofs.Ytmllbemjcfkmjaa
open Go.RowKit
set_option linter.unusedSimpArgs false
set_option linter.unusedVariables false

def macV (m : Mac) (a a2 : Option Addr) (cap cap2 : Nat) : Value := .agg #[.int .i64 m.L, .slice a m.nx.length cap, .slice a2 m.ac.length cap2]
def rdV (m : Mac) (a a2 : Option Addr) (cap cap2 : Nat) : Value := .agg #[.int .i64 m.L, .func (.func 105) #[macV m a a2 cap cap2] #[], .func (.func 106) #[macV m a a2 cap cap2] #[]]
theorem of_any (m : Mac) (a a2 : Option Addr) (cap cap2 : Nat) (W : World) :
    Calls Try.prog 64 #[.agg #[.int .i64 m.L, .slice a m.nx.length cap, .slice a2 m.ac.length cap2]] W fun e w' => e = .returned (rdV m a a2 cap cap2) ∧ Below W.heap.size W w' := by
  go_enter Try.func64, Try.ntmps64
  go_wp2_with fail
  exact bodyPost_ret (v := rdV m a a2 cap cap2) (by simp [results, Try.results64, go_sem, rdV, macV]) rfl ⟨rfl, (((Below.refl _ _).alloc (Nat.le_refl _) _).alloc (by simp) _).alloc (by simp; omega) _⟩
theorem step105 (m : Mac) (a a2 : Option Addr) (cap cap2 : Nat) (W : World) (hM : MacAt W a cap a2 cap2 m) (hOK : MacOK m) (s : Int) (h0 : 0 ≤ s) (h1 : s < m.nx.length) (c : Int) (c0 : 0 ≤ c) (c1 : c < m.L) :
    Calls Try.prog 105 #[.agg #[.int .i64 m.L, .slice a m.nx.length cap, .slice a2 m.ac.length cap2], .int .i64 s, .int .i64 c] W fun e w' => e = .returned (.int .i64 (stepM m s c.toNat)) ∧ Below W.heap.size W w' := by
  have hb0 := below_alloc W (.cells #[.int .i64 m.L, .slice a m.nx.length cap, .slice a2 m.ac.length cap2] 113)
  have hM' := hM.below hb0
  obtain ⟨sn, rfl⟩ : ∃ sn : Nat, s = (sn : Int) := ⟨s.toNat, by omega⟩
  obtain ⟨cn, rfl⟩ : ∃ cn : Nat, c = (cn : Int) := ⟨c.toNat, by omega⟩
  have hsl : sn < m.nx.length := by omega
  have hl := hOK.len sn hsl
  obtain ⟨b1, o1, rfl, hb1, ra, rc, hc, r1, r2, hI⟩ := hM'.nx sn hsl
  have hcl : cn < (rowOf m sn).length := by omega
  obtain ⟨b2, o2, rfl, hb2, hc2⟩ := hI cn hcl
  have R : Hid (stepM m (sn : Int) (cn : Int).toNat = nth (rowOf m sn) cn) := hid rfl
  have i1 : (cn : Int) < ((rowOf m sn).length : Int) := by omega
  clear hl hM' hI hM hOK
  go_enter Try.func105, Try.ntmps105
  go_wp2_with fail
  go_ret
  exact ⟨by rw [R.out]; rfl, hb0⟩
theorem acc106 (m : Mac) (a a2 : Option Addr) (cap cap2 : Nat) (W : World) (hM : MacAt W a cap a2 cap2 m) (hOK : MacOK m) (s : Int) (h0 : 0 ≤ s) (h1 : s < m.nx.length) :
    Calls Try.prog 106 #[.agg #[.int .i64 m.L, .slice a m.nx.length cap, .slice a2 m.ac.length cap2], .int .i64 s] W fun e w' => e = .returned (.bool (accM m s)) ∧ Below W.heap.size W w' := by
  have hb0 := below_alloc W (.cells #[.int .i64 m.L, .slice a m.nx.length cap, .slice a2 m.ac.length cap2] 113)
  have hM' := hM.below hb0
  obtain ⟨sn, rfl⟩ : ∃ sn : Nat, s = (sn : Int) := ⟨s.toNat, by omega⟩
  have hsl : sn < m.ac.length := by have := hOK.ac; omega
  obtain ⟨b2, o2, rfl, hb2, hc2⟩ := hM'.ac sn hsl
  have R : Hid (accM m (sn : Int) = m.ac.getD sn false) := hid rfl
  have i1 : (sn : Int) < (m.ac.length : Int) := by omega
  clear hM' hM hOK
  generalize m.ac.getD sn false = x at *
  go_enter Try.func106, Try.ntmps106
  go_wp2_with fail
  go_ret
  exact ⟨by rw [R.out]; rfl, hb0⟩

set_option maxRecDepth 100000 in
set_option maxHeartbeats 1000000 in
theorem run_any (m : Mac) (a a2 : Option Addr) (cap cap2 : Nat) (s : Int) (xs : List Int) (ax : Option Addr) (cx : Nat) (W : World) (hM : MacAt W a cap a2 cap2 m) (hI : IntsAt W ax xs) (hOK : MacOK m) (hW : WordOK m.L xs) (h0 : 0 ≤ s) (h1 : s < m.nx.length) :
    Calls Try.prog 68 #[rdV m a a2 cap cap2, .int .i64 s, .slice ax xs.length cx] W fun e w' => e = .returned (.int .i64 (runF m xs s xs.length)) ∧ Below W.heap.size W w' := by
  have hb0 := below_alloc W (.cells #[.int .i64 m.L, .func (.func 105) #[macV m a a2 cap cap2] #[], .func (.func 106) #[macV m a a2 cap cap2] #[]] 75)
  have HM := hid (hM.below hb0)
  have HI := hid (hI.below hb0)
  have HB := hid hb0
  have HOK := hid hOK
  have HW := hid hW
  have Hs := hid (And.intro h0 h1)
  have h20 := hW.l20
  clear hM hI hb0 hOK hW h0 h1
  unfold rdV
  go_enter Try.func68, Try.ntmps68
  generalize hV : W.alloc (.cells #[.int .i64 m.L, .func (.func 105) #[macV m a a2 cap cap2] #[], .func (.func 106) #[macV m a a2 cap cap2] #[]] 75) = V at *
  go_wp2_with fail
  go_loopw [1, 8, 11] (fun v1 v8 v11 w' => ∃ i : Nat, i ≤ xs.length ∧ v11 = .int .i64 i ∧ v1 = .int .i64 (runF m xs s i) ∧ Below V.heap.size V w') (fun _ _ v11 _ => xs.length - (intOf v11).toNat)
  case atStart => exact ⟨0, by omega, rfl, rfl, Below.refl _ _⟩
  case round =>
    obtain ⟨i, hi, rfl, rfl, hb⟩ := hrel
    have hX := box_at (B := V.heap.size) (by rw [hV]; exact hb) (by rw [← hV]; simp)
    have x1 := hX.c1
    have xl := hX.lt
    by_cases hlt : i < xs.length
    · obtain ⟨bx, ox, rfl, hbx, c1⟩ := (HI.out.below hb) i hlt
      have hwe := HW.out.el i hlt
      have hs := runF_in HOK.out HW.out Hs.out.1 Hs.out.2 i hi
      have HS := hid (step105 m a a2 cap cap2 wr (HM.out.below hb) HOK.out (runF m xs s i) hs.1 hs.2 (nth xs i) hwe.1 hwe.2)
      have HN : Hid (runF m xs s (i + 1) = stepM m (runF m xs s i) (nth xs i).toNat) := hid rfl
      have Hb := hid hb
      have i2 : (i : Int) < (xs.length : Int) := by omega
      clear hb hX hs
      unfold macV at x1
      go_wp2_with fail
      refine HS.out.mono ?_; rintro e w1 ⟨rfl, hb1⟩
      have hb2 := Hb.out.trans (hb1.mono Hb.out.size)
      clear hb1
      go_wp2_with fail
      go_roundw
      case rel => exact ⟨i + 1, by omega, by go_num, by rw [HN.out], hb2⟩
      case measure => simp [intOf]; omega
    · obtain rfl : i = xs.length := by omega
      have hz := HB.out.trans (hb.mono HB.out.size)
      clear hb hX
      go_wp2_with fail
      go_ret
      exact ⟨rfl, hz⟩
end Go.Proofs.Ytmllbemjcfkmjaa
