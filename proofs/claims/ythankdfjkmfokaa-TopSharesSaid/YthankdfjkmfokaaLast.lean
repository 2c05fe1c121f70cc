/- 'last': what it returns; both for all kinds. -/
import Derived.Test.YthankdfjkmfokaaNext
namespace Go.Proofs.Ythankdfjkmfokaa
open Go.RowKit
set_option linter.unusedSimpArgs false
set_option linter.unusedVariables false

set_option maxRecDepth 100000 in
set_option maxHeartbeats 2000000 in
theorem last0 (xs ms : List Int) (a a2 : Option Addr) (cap cap2 : Nat) (W : World) (h1 : IntsAt W a xs) (h2 : IntsAt W a2 ms) (ho : OrdOK xs) (hm : MealsOK xs ms) :
    Calls Try.prog 64 #[.agg #[.func (.func 92) #[] #[], .int .i64 1], .slice a xs.length cap, .slice a2 ms.length cap2] W (ClaimsPost (lastL 0 xs ms xs.length) W) := by
  obtain ⟨i0, hi0, hz0, hz1, hz2⟩ := info_parts info83
  have hl8 := ho.l8
  have Hlen := hid hm.len
  have Hel := hid hm.el
  have hbox : Below W.heap.size W (W.alloc (.cells #[.func (.func 92) #[] #[], .int .i64 1] 66)) := below_alloc _ _
  clear hm ho
  go_enter Try.func64, Try.ntmps64
  go_wp2_with fail
  go_loopw [7, 12] (fun v7 v12 w' => ∃ k : Nat, k ≤ xs.length ∧ v12 = .int .i64 k ∧ w'.ownsRow (W.heap.size + 1) 83 3 v7 (lastL 0 xs ms k).length (flat (lastL 0 xs ms k)) ∧ Below (W.heap.size + 1) (W.alloc (.cells #[.func (.func 92) #[] #[], .int .i64 1] 66)) w') (fun _ v12 _ => xs.length - (intOf v12).toNat)
  case atStart => exact ⟨0, by omega, rfl, World.ownsRow_nil _ _ _ _, Below.refl _ _⟩
  case round =>
    obtain ⟨k, hk, rfl, hown, hb⟩ := hrel
    have hb' : Below (W.alloc (.cells #[.func (.func 92) #[] #[], .int .i64 1] 66)).heap.size (W.alloc (.cells #[.func (.func 92) #[] #[], .int .i64 1] 66)) wr := hb.mono (by simp)
    by_cases hlt : k < xs.length
    · obtain ⟨b, off, rfl, hbl, c1⟩ := ((h1.below hbox).below hb') k hlt
      have hkm : k < ms.length := by rw [Hlen.out]; exact hlt
      have hel := Hel.out k hkm
      obtain ⟨b2, off2, rfl, hbl2, c2⟩ := ((h2.below hbox).below hb') k hkm
      have k0 : wr.cell? ⟨W.heap.size, 0, none⟩ = some (.func (.func 92) #[] #[]) := (hb'.cell (p := ⟨W.heap.size, 0, none⟩) (by simp)).trans (by simp)
      have hsz : W.heap.size < wr.heap.size := by have := hb'.size; simp at this; omega
      have hll := lastL_len 0 xs ms k
      by_cases hpos : 0 < nth ms k
      · have HS := hid (lastL_yes 0 xs ms k hpos)
        have hk0 : (0 : Int) ≤ (k : Int) := by omega
        have hk1 : (k : Int) < (ms.length : Int) := by omega
        have Hne1 : Hid (u7.ownBlock ≠ some W.heap.size) := hid fun e => by have := (hown.lt _ e).1; omega
        have Hne2 : Hid (u7.ownBlock ≠ some b2) := hid fun e => by
          have h3 := (hown.lt _ e).1
          obtain ⟨b', off', e', hlt', _⟩ := h2 k hkm
          cases e'
          omega
        have hc := clos92 (nth ms k - 1) wr.drew (by omega) (by omega)
        have Hc := hid hc
        clear hc
        have hw : IntKind.i64.wrap (nth ms k - 1) = nth ms k - 1 := IntWalk.i64_in _ (by omega)
        go_wp2_with fail
        go_region_held3 (fun w' => w'.cell? ⟨W.heap.size, 0, none⟩ = some (.func (.func 92) #[] #[]) ∧ w'.cell? ⟨b2, off2 + k, none⟩ = some (.int .i64 (nth ms k)) ∧ W.heap.size < w'.heap.size ∧ b2 < w'.heap.size) (first | exact ⟨k0, c2, hsz, hbl2⟩ | exact keep2c hgrow Hne1.out Hne2.out (by assumption) | exact keep2c (row := none) (World.grownBy_alloc _ _ none) (fun h => by cases h) (fun h => by cases h) (by assumption) | assumption) (first | (go_at_call 92; refine Hc.out.mono ?_; rintro e w2 ⟨rfl, rfl⟩) | (refine step_append_own (by rfl) _ _ _ (by rfl) (W.heap.size + 1) 83 i0 (.agg #[.int .i64 0, .int .i64 0, .int .i64 0]) 3 24 Try.underlying80 hi0 hz0 hz1 hz2 rfl (by omega) u7 (lastL 0 xs ms k).length (flat (lastL 0 xs ms k)) (by rfl) (hown.drew.alloc _) ⟨wr.heap.size, 0, none⟩ 1 1 [.int .i64 (nth xs k), .int .i64 (stp 0 (nth ms k - 1)), .int .i64 k] (by rfl) (by rfl) (World.news_of_block (cs := #[.int .i64 (nth xs k), .int .i64 (stp 0 (nth ms k - 1)), .int .i64 k]) (t := 83) (fr := (0, 0)) (heap_alloc_new wr.drew _)) (by simp [Value.oneCell']) (by unfold maxLen; omega) (by omega) (by simp; omega) ?_; intro v' w3 hown1 hgrow))
        rw [HS.out.1, ← HS.out.2] at hown1
        have G : wr.grownBy w3 u7.ownBlock := World.grownBy.trans (World.grownBy.trans (but_drew (World.grownBy.refl wr _)) (World.grownBy_alloc _ _ _)) hgrow
        have hb3 : Below (W.heap.size + 1) (W.alloc (.cells #[.func (.func 92) #[] #[], .int .i64 1] 66)) w3 := hb.grown G (by omega) fun j hj => (hown.lt j hj).1
        clear G hgrow hown hb hb' c1 c2 k0 Hc
        go_wp2_with fail
        go_roundw
        case rel => exact ⟨k + 1, by omega, by go_num, hown1, hb3⟩
        case measure => simp [intOf]; omega
      · have HS := hid (lastL_no 0 xs ms k hpos)
        go_wp2_with fail
        go_roundw
        case rel => exact ⟨k + 1, by omega, by go_num, by rw [HS.out]; exact hown, hb⟩
        case measure => simp [intOf]; omega
    · obtain rfl : k = xs.length := by omega
      have hll := lastL_len 0 xs ms xs.length
      obtain ⟨a3, c3, rfl, h3, h4, h5⟩ := own_claims hown
      go_wp2_with fail
      go_ret
      exact ⟨a3, c3, rfl, h3, hbox.trans (hb'.mono (by simp))⟩

set_option maxRecDepth 100000 in
set_option maxHeartbeats 2000000 in
theorem last1 (xs ms : List Int) (a a2 : Option Addr) (cap cap2 : Nat) (W : World) (h1 : IntsAt W a xs) (h2 : IntsAt W a2 ms) (ho : OrdOK xs) (hm : MealsOK xs ms) :
    Calls Try.prog 64 #[.agg #[.func (.func 93) #[] #[], .int .i64 2], .slice a xs.length cap, .slice a2 ms.length cap2] W (ClaimsPost (lastL 1 xs ms xs.length) W) := by
  obtain ⟨i0, hi0, hz0, hz1, hz2⟩ := info_parts info83
  have hl8 := ho.l8
  have Hlen := hid hm.len
  have Hel := hid hm.el
  have hbox : Below W.heap.size W (W.alloc (.cells #[.func (.func 93) #[] #[], .int .i64 2] 66)) := below_alloc _ _
  clear hm ho
  go_enter Try.func64, Try.ntmps64
  go_wp2_with fail
  go_loopw [7, 12] (fun v7 v12 w' => ∃ k : Nat, k ≤ xs.length ∧ v12 = .int .i64 k ∧ w'.ownsRow (W.heap.size + 1) 83 3 v7 (lastL 1 xs ms k).length (flat (lastL 1 xs ms k)) ∧ Below (W.heap.size + 1) (W.alloc (.cells #[.func (.func 93) #[] #[], .int .i64 2] 66)) w') (fun _ v12 _ => xs.length - (intOf v12).toNat)
  case atStart => exact ⟨0, by omega, rfl, World.ownsRow_nil _ _ _ _, Below.refl _ _⟩
  case round =>
    obtain ⟨k, hk, rfl, hown, hb⟩ := hrel
    have hb' : Below (W.alloc (.cells #[.func (.func 93) #[] #[], .int .i64 2] 66)).heap.size (W.alloc (.cells #[.func (.func 93) #[] #[], .int .i64 2] 66)) wr := hb.mono (by simp)
    by_cases hlt : k < xs.length
    · obtain ⟨b, off, rfl, hbl, c1⟩ := ((h1.below hbox).below hb') k hlt
      have hkm : k < ms.length := by rw [Hlen.out]; exact hlt
      have hel := Hel.out k hkm
      obtain ⟨b2, off2, rfl, hbl2, c2⟩ := ((h2.below hbox).below hb') k hkm
      have k0 : wr.cell? ⟨W.heap.size, 0, none⟩ = some (.func (.func 93) #[] #[]) := (hb'.cell (p := ⟨W.heap.size, 0, none⟩) (by simp)).trans (by simp)
      have hsz : W.heap.size < wr.heap.size := by have := hb'.size; simp at this; omega
      have hll := lastL_len 1 xs ms k
      by_cases hpos : 0 < nth ms k
      · have HS := hid (lastL_yes 1 xs ms k hpos)
        have hk0 : (0 : Int) ≤ (k : Int) := by omega
        have hk1 : (k : Int) < (ms.length : Int) := by omega
        have Hne1 : Hid (u7.ownBlock ≠ some W.heap.size) := hid fun e => by have := (hown.lt _ e).1; omega
        have Hne2 : Hid (u7.ownBlock ≠ some b2) := hid fun e => by
          have h3 := (hown.lt _ e).1
          obtain ⟨b', off', e', hlt', _⟩ := h2 k hkm
          cases e'
          omega
        have hc := clos93 (nth ms k - 1) wr.drew (by omega) (by omega)
        have Hc := hid hc
        clear hc
        have hw : IntKind.i64.wrap (nth ms k - 1) = nth ms k - 1 := IntWalk.i64_in _ (by omega)
        go_wp2_with fail
        go_region_held3 (fun w' => w'.cell? ⟨W.heap.size, 0, none⟩ = some (.func (.func 93) #[] #[]) ∧ w'.cell? ⟨b2, off2 + k, none⟩ = some (.int .i64 (nth ms k)) ∧ W.heap.size < w'.heap.size ∧ b2 < w'.heap.size) (first | exact ⟨k0, c2, hsz, hbl2⟩ | exact keep2c hgrow Hne1.out Hne2.out (by assumption) | exact keep2c (row := none) (World.grownBy_alloc _ _ none) (fun h => by cases h) (fun h => by cases h) (by assumption) | assumption) (first | (go_at_call 93; refine Hc.out.mono ?_; rintro e w2 ⟨rfl, rfl⟩) | (refine step_append_own (by rfl) _ _ _ (by rfl) (W.heap.size + 1) 83 i0 (.agg #[.int .i64 0, .int .i64 0, .int .i64 0]) 3 24 Try.underlying80 hi0 hz0 hz1 hz2 rfl (by omega) u7 (lastL 1 xs ms k).length (flat (lastL 1 xs ms k)) (by rfl) (hown.drew.alloc _) ⟨wr.heap.size, 0, none⟩ 1 1 [.int .i64 (nth xs k), .int .i64 (stp 1 (nth ms k - 1)), .int .i64 k] (by rfl) (by rfl) (World.news_of_block (cs := #[.int .i64 (nth xs k), .int .i64 (stp 1 (nth ms k - 1)), .int .i64 k]) (t := 83) (fr := (0, 0)) (heap_alloc_new wr.drew _)) (by simp [Value.oneCell']) (by unfold maxLen; omega) (by omega) (by simp; omega) ?_; intro v' w3 hown1 hgrow))
        rw [HS.out.1, ← HS.out.2] at hown1
        have G : wr.grownBy w3 u7.ownBlock := World.grownBy.trans (World.grownBy.trans (but_drew (World.grownBy.refl wr _)) (World.grownBy_alloc _ _ _)) hgrow
        have hb3 : Below (W.heap.size + 1) (W.alloc (.cells #[.func (.func 93) #[] #[], .int .i64 2] 66)) w3 := hb.grown G (by omega) fun j hj => (hown.lt j hj).1
        clear G hgrow hown hb hb' c1 c2 k0 Hc
        go_wp2_with fail
        go_roundw
        case rel => exact ⟨k + 1, by omega, by go_num, hown1, hb3⟩
        case measure => simp [intOf]; omega
      · have HS := hid (lastL_no 1 xs ms k hpos)
        go_wp2_with fail
        go_roundw
        case rel => exact ⟨k + 1, by omega, by go_num, by rw [HS.out]; exact hown, hb⟩
        case measure => simp [intOf]; omega
    · obtain rfl : k = xs.length := by omega
      have hll := lastL_len 1 xs ms xs.length
      obtain ⟨a3, c3, rfl, h3, h4, h5⟩ := own_claims hown
      go_wp2_with fail
      go_ret
      exact ⟨a3, c3, rfl, h3, hbox.trans (hb'.mono (by simp))⟩

set_option maxRecDepth 100000 in
set_option maxHeartbeats 2000000 in
theorem last2 (xs ms : List Int) (a a2 : Option Addr) (cap cap2 : Nat) (W : World) (h1 : IntsAt W a xs) (h2 : IntsAt W a2 ms) (ho : OrdOK xs) (hm : MealsOK xs ms) :
    Calls Try.prog 64 #[.agg #[.func (.func 94) #[] #[], .int .i64 1], .slice a xs.length cap, .slice a2 ms.length cap2] W (ClaimsPost (lastL 2 xs ms xs.length) W) := by
  obtain ⟨i0, hi0, hz0, hz1, hz2⟩ := info_parts info83
  have hl8 := ho.l8
  have Hlen := hid hm.len
  have Hel := hid hm.el
  have hbox : Below W.heap.size W (W.alloc (.cells #[.func (.func 94) #[] #[], .int .i64 1] 66)) := below_alloc _ _
  clear hm ho
  go_enter Try.func64, Try.ntmps64
  go_wp2_with fail
  go_loopw [7, 12] (fun v7 v12 w' => ∃ k : Nat, k ≤ xs.length ∧ v12 = .int .i64 k ∧ w'.ownsRow (W.heap.size + 1) 83 3 v7 (lastL 2 xs ms k).length (flat (lastL 2 xs ms k)) ∧ Below (W.heap.size + 1) (W.alloc (.cells #[.func (.func 94) #[] #[], .int .i64 1] 66)) w') (fun _ v12 _ => xs.length - (intOf v12).toNat)
  case atStart => exact ⟨0, by omega, rfl, World.ownsRow_nil _ _ _ _, Below.refl _ _⟩
  case round =>
    obtain ⟨k, hk, rfl, hown, hb⟩ := hrel
    have hb' : Below (W.alloc (.cells #[.func (.func 94) #[] #[], .int .i64 1] 66)).heap.size (W.alloc (.cells #[.func (.func 94) #[] #[], .int .i64 1] 66)) wr := hb.mono (by simp)
    by_cases hlt : k < xs.length
    · obtain ⟨b, off, rfl, hbl, c1⟩ := ((h1.below hbox).below hb') k hlt
      have hkm : k < ms.length := by rw [Hlen.out]; exact hlt
      have hel := Hel.out k hkm
      obtain ⟨b2, off2, rfl, hbl2, c2⟩ := ((h2.below hbox).below hb') k hkm
      have k0 : wr.cell? ⟨W.heap.size, 0, none⟩ = some (.func (.func 94) #[] #[]) := (hb'.cell (p := ⟨W.heap.size, 0, none⟩) (by simp)).trans (by simp)
      have hsz : W.heap.size < wr.heap.size := by have := hb'.size; simp at this; omega
      have hll := lastL_len 2 xs ms k
      by_cases hpos : 0 < nth ms k
      · have HS := hid (lastL_yes 2 xs ms k hpos)
        have hk0 : (0 : Int) ≤ (k : Int) := by omega
        have hk1 : (k : Int) < (ms.length : Int) := by omega
        have Hne1 : Hid (u7.ownBlock ≠ some W.heap.size) := hid fun e => by have := (hown.lt _ e).1; omega
        have Hne2 : Hid (u7.ownBlock ≠ some b2) := hid fun e => by
          have h3 := (hown.lt _ e).1
          obtain ⟨b', off', e', hlt', _⟩ := h2 k hkm
          cases e'
          omega
        have hc := clos94 (nth ms k - 1) wr.drew (by omega) (by omega)
        have Hc := hid hc
        clear hc
        have hw : IntKind.i64.wrap (nth ms k - 1) = nth ms k - 1 := IntWalk.i64_in _ (by omega)
        go_wp2_with fail
        go_region_held3 (fun w' => w'.cell? ⟨W.heap.size, 0, none⟩ = some (.func (.func 94) #[] #[]) ∧ w'.cell? ⟨b2, off2 + k, none⟩ = some (.int .i64 (nth ms k)) ∧ W.heap.size < w'.heap.size ∧ b2 < w'.heap.size) (first | exact ⟨k0, c2, hsz, hbl2⟩ | exact keep2c hgrow Hne1.out Hne2.out (by assumption) | exact keep2c (row := none) (World.grownBy_alloc _ _ none) (fun h => by cases h) (fun h => by cases h) (by assumption) | assumption) (first | (go_at_call 94; refine Hc.out.mono ?_; rintro e w2 ⟨rfl, rfl⟩) | (refine step_append_own (by rfl) _ _ _ (by rfl) (W.heap.size + 1) 83 i0 (.agg #[.int .i64 0, .int .i64 0, .int .i64 0]) 3 24 Try.underlying80 hi0 hz0 hz1 hz2 rfl (by omega) u7 (lastL 2 xs ms k).length (flat (lastL 2 xs ms k)) (by rfl) (hown.drew.alloc _) ⟨wr.heap.size, 0, none⟩ 1 1 [.int .i64 (nth xs k), .int .i64 (stp 2 (nth ms k - 1)), .int .i64 k] (by rfl) (by rfl) (World.news_of_block (cs := #[.int .i64 (nth xs k), .int .i64 (stp 2 (nth ms k - 1)), .int .i64 k]) (t := 83) (fr := (0, 0)) (heap_alloc_new wr.drew _)) (by simp [Value.oneCell']) (by unfold maxLen; omega) (by omega) (by simp; omega) ?_; intro v' w3 hown1 hgrow))
        rw [HS.out.1, ← HS.out.2] at hown1
        have G : wr.grownBy w3 u7.ownBlock := World.grownBy.trans (World.grownBy.trans (but_drew (World.grownBy.refl wr _)) (World.grownBy_alloc _ _ _)) hgrow
        have hb3 : Below (W.heap.size + 1) (W.alloc (.cells #[.func (.func 94) #[] #[], .int .i64 1] 66)) w3 := hb.grown G (by omega) fun j hj => (hown.lt j hj).1
        clear G hgrow hown hb hb' c1 c2 k0 Hc
        go_wp2_with fail
        go_roundw
        case rel => exact ⟨k + 1, by omega, by go_num, hown1, hb3⟩
        case measure => simp [intOf]; omega
      · have HS := hid (lastL_no 2 xs ms k hpos)
        go_wp2_with fail
        go_roundw
        case rel => exact ⟨k + 1, by omega, by go_num, by rw [HS.out]; exact hown, hb⟩
        case measure => simp [intOf]; omega
    · obtain rfl : k = xs.length := by omega
      have hll := lastL_len 2 xs ms xs.length
      obtain ⟨a3, c3, rfl, h3, h4, h5⟩ := own_claims hown
      go_wp2_with fail
      go_ret
      exact ⟨a3, c3, rfl, h3, hbox.trans (hb'.mono (by simp))⟩

theorem next_any (kd : Int) (hk : KindOK kd) (xs ms : List Int) (a a2 : Option Addr) (cap cap2 : Nat) (W : World) (h1 : IntsAt W a xs) (h2 : IntsAt W a2 ms) (ho : OrdOK xs) (hm : MealsOK xs ms) :
    Calls Try.prog 65 #[.agg #[.func (.func (kdF kd)) #[] #[], .int .i64 (fac kd)], .slice a xs.length cap, .slice a2 ms.length cap2] W (ClaimsPost (nextL kd xs ms xs.length) W) := by
  rcases hk with rfl | rfl | rfl
  · exact next0 xs ms a a2 cap cap2 W h1 h2 ho hm
  · exact next1 xs ms a a2 cap cap2 W h1 h2 ho hm
  · exact next2 xs ms a a2 cap cap2 W h1 h2 ho hm
theorem last_any (kd : Int) (hk : KindOK kd) (xs ms : List Int) (a a2 : Option Addr) (cap cap2 : Nat) (W : World) (h1 : IntsAt W a xs) (h2 : IntsAt W a2 ms) (ho : OrdOK xs) (hm : MealsOK xs ms) :
    Calls Try.prog 64 #[.agg #[.func (.func (kdF kd)) #[] #[], .int .i64 (fac kd)], .slice a xs.length cap, .slice a2 ms.length cap2] W (ClaimsPost (lastL kd xs ms xs.length) W) := by
  rcases hk with rfl | rfl | rfl
  · exact last0 xs ms a a2 cap cap2 W h1 h2 ho hm
  · exact last1 xs ms a a2 cap cap2 W h1 h2 ho hm
  · exact last2 xs ms a a2 cap cap2 W h1 h2 ho hm
end Go.Proofs.Ythankdfjkmfokaa
