/- 'known': it returns true. -/
import Derived.Test.YtmllbemjcfkmjaaKnownLaw
import Derived.Test.YtmllbemjcfkmjaaRank
namespace Go.Proofs.Ytmllbemjcfkmjaa
open Go.RowKit
set_option linter.unusedSimpArgs false
set_option linter.unusedVariables false

def Ap22 (W : World) (e : Ending) (w' : World) : Prop := ∃ a cap a2 cap2, e = .returned (.tuple #[.agg #[.int .i64 2, .slice a 4 cap, .slice a2 4 cap2], .int .i64 0]) ∧ Below W.heap.size W w'
def Ap32 (W : World) (e : Ending) (w' : World) : Prop := ∃ a cap a2 cap2, e = .returned (.tuple #[.agg #[.int .i64 3, .slice a 5 cap, .slice a2 5 cap2], .int .i64 0]) ∧ MacAt w' a cap a2 cap2 m3 ∧ Below W.heap.size W w'
theorem apart22 (W : World) : Calls Try.prog 42 #[.int .i64 2, .int .i64 2] W (Ap22 W) := by
  refine (Apart_any 2 2 W).mono fun e w' h => ?_
  rcases h with ⟨_, F, hF, hb, ⟨h64, base, vn, vb, hbase, rfl, hM⟩ | ⟨h64, _⟩⟩ | ⟨h, _⟩
  · have h4 := ap22 hF
    obtain ⟨a, cap, a2, cap2, rfl, rfl, _⟩ := hM.mac
    exact ⟨a, cap, a2, cap2, by rw [h4]; rfl, hb⟩
  · have h4 := ap22 hF
    omega
  · exact absurd (by unfold apE; rw [if_pos (by decide)]) h
theorem apart32 (W : World) : Calls Try.prog 42 #[.int .i64 3, .int .i64 2] W (Ap32 W) := by
  refine (Apart_any 3 2 W).mono fun e w' h => ?_
  rcases h with ⟨_, F, hF, hb, ⟨h64, base, vn, vb, hbase, rfl, hM⟩ | ⟨h64, _⟩⟩ | ⟨h, _⟩
  · have h4 := ap32 hF
    obtain ⟨a, cap, a2, cap2, rfl, rfl, hA⟩ := hM.mac
    have e : macOf (3 : Int).toNat F = m3 := h4.2
    rw [e] at hA
    exact ⟨a, cap, a2, cap2, by rw [h4.1]; rfl, hA, hb⟩
  · have h4 := ap32 hF
    omega
  · exact absurd (by unfold apE; rw [if_pos (by decide)]) h
theorem count3 (W : World) (a a2 : Option Addr) (cap cap2 : Nat) (h : MacAt W a cap a2 cap2 m3) : Calls Try.prog 40 #[.agg #[.int .i64 3, .slice a 5 cap, .slice a2 5 cap2], .int .i64 3] W fun e w' => e = .returned (.tuple #[.int .i64 12, .int .i64 0]) ∧ Below W.heap.size W w' := by
  have := Count_any m3 a a2 cap cap2 3 W h
  rw [m3_count.1, m3_count.2] at this
  exact this
theorem rank3 (W : World) (a a2 b : Option Addr) (cap cap2 cb : Nat) (h : MacAt W a cap a2 cap2 m3) (hI : IntsAt W b [0, 2, 0]) : Calls Try.prog 29 #[.agg #[.int .i64 3, .slice a 5 cap, .slice a2 5 cap2], .slice b 3 cb] W fun e w' => e = .returned (.tuple #[.int .i64 2, .int .i64 0]) ∧ Below W.heap.size W w' := by
  have := Rank_any m3 a a2 cap cap2 [0, 2, 0] b cb W h hI (by unfold maxLen; decide)
  rw [m3_rank.1, m3_rank.2] at this
  exact this
set_option maxRecDepth 100000 in
set_option maxHeartbeats 2000000 in
theorem known_true (W : World) : Calls Try.prog 19 #[] W fun e w' => e = .returned (.bool true) ∧ Below W.heap.size W w' := by
  have H1 := hid (apart22 W)
  go_enter Try.func19, Try.ntmps19
  go_wp2_with fail
  refine H1.out.mono ?_; rintro e w1 ⟨a, cap, a2, cap2, rfl, hb1⟩
  have H2 := hid (fun w => apart32 w)
  go_wp2_with fail
  refine (H2.out _).mono ?_; rintro e w2 ⟨c, ccap, c2, ccap2, rfl, hM, hb2⟩
  have hX := box_at hb2 (by simp)
  have a0 := hX.c0
  have a1 := hX.c1
  have a2 := hX.c2
  have al := hX.lt
  have HM := hid hM
  have hbW2 : Below W.heap.size W w2 := (hb1.alloc hb1.size _).trans (hb2.mono (by have := hb1.size; simp; omega))
  have HB2 := hid hbW2
  clear hX hM hb2 hb1 hbW2
  have HM2 := hid (HM.out.below (below_alloc w2 (.cells #[.int .i64 3, .slice c 5 ccap, .slice c2 5 ccap2] 25)))
  have H3 := hid (count3 (w2.alloc (.cells #[.int .i64 3, .slice c 5 ccap, .slice c2 5 ccap2] 25)) c c2 ccap ccap2 HM2.out)
  go_wp2_with fail
  refine H3.out.mono ?_; rintro e w3 ⟨rfl, hb3⟩
  have hY := box_at hb3 (by simp)
  have b0 := hY.c0
  have b1 := hY.c1
  have b2 := hY.c2
  have bl := hY.lt
  have a0' := (hb3.cell (p := ⟨w1.heap.size, 0, none⟩) (by simp; omega)).trans (((below_alloc w2 _).cell (p := ⟨w1.heap.size, 0, none⟩) al).trans a0)
  have a1' := (hb3.cell (p := ⟨w1.heap.size, 1, none⟩) (by simp; omega)).trans (((below_alloc w2 _).cell (p := ⟨w1.heap.size, 1, none⟩) al).trans a1)
  have HB3 := hid (HB2.out.trans ((below_alloc w2 (.cells #[.int .i64 3, .slice c 5 ccap, .slice c2 5 ccap2] 25)).trans (hb3.mono (by simp)) |>.mono HB2.out.size))
  have HM3 := hid ((HM2.out.below hb3).below (below_alloc w3 (.cells #[.int .i64 0, .int .i64 2, .int .i64 0] 3)))
  have al3 : w1.heap.size < w3.heap.size := by omega
  clear hY hb3 a0 a1 a2 al
  have H4 := hid (rank3 (w3.alloc (.cells #[.int .i64 0, .int .i64 2, .int .i64 0] 3)) c c2 (some ⟨w3.heap.size, 0, none⟩) ccap ccap2 3 HM3.out (intsAt_alloc w3 [0, 2, 0] 3))
  go_wp2_with fail
  refine H4.out.mono ?_; rintro e w4 ⟨rfl, hb4⟩
  have a0'' := (hb4.cell (p := ⟨w1.heap.size, 0, none⟩) (by simp; omega)).trans (((below_alloc w3 _).cell (p := ⟨w1.heap.size, 0, none⟩) al3).trans a0')
  have a1'' := (hb4.cell (p := ⟨w1.heap.size, 1, none⟩) (by simp; omega)).trans (((below_alloc w3 _).cell (p := ⟨w1.heap.size, 1, none⟩) al3).trans a1')
  have al4 : w1.heap.size < w4.heap.size := by have := hb4.size; simp at this; omega
  have HB4 := HB3.out.trans (((below_alloc w3 (.cells #[.int .i64 0, .int .i64 2, .int .i64 0] 3)).trans (hb4.mono (by simp))).mono HB3.out.size)
  clear hb4 a0' a1' b0 b1 b2
  go_wp2_with fail
  go_ret
  exact ⟨rfl, HB4⟩
end Go.Proofs.Ytmllbemjcfkmjaa
