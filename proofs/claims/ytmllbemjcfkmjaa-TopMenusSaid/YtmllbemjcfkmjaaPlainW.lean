/- 'plain' (the reader's plain form of a machine): what it returns, for a reader given by two function values whose contracts are laid as conditions: the machine of all derivatives of the language in the order of finding, or the error where there are more than 64. -/
import Derived.Test.YtmllbemjcfkmjaaPlainOut
import Derived.Deep.RegionHeld3
namespace Go.Proofs.Ytmllbemjcfkmjaa
open Go.RowKit Go.Maps
set_option linter.unusedSimpArgs false
set_option linter.unusedVariables false

theorem key_int (s : Int) (h1 : -9223372036854775808 ≤ s) (h2 : s ≤ 9223372036854775807) : keyOf Try.prog 3 (.int .i64 s) = some (.int .i64 s) := by
  have hw : (Lit.int .i64 s).wf = true := by
    simp only [Lit.wf, Bool.and_eq_true, decide_eq_true_eq]
    exact ⟨h1, h2⟩
  unfold keyOf
  rw [Try.underlying3]
  simp only [mapKey, Try.underlying3, hw, and_self, if_true]
theorem row_shape {w : World} {B n : Nat} {e : TypeId} {v : Value} {xs : List Value} (h : w.ownsRow B e 1 v n xs) : ∃ a cap, v = .slice a n cap := by
  rcases h.2 with ⟨rfl, rfl⟩ | ⟨g, cap, cur, rfl, _⟩
  · exact ⟨_, _, rfl⟩
  · exact ⟨_, _, rfl⟩
theorem news_one (w : World) (x : Value) (e : TypeId) : Hid (∀ t u, ([x])[t]? = some u → (w.alloc (.cells #[x] e)).cell? ((⟨w.heap.size, 0, none⟩ : Addr).add t) = some u) := by
  have := World.news_of_block (cs := #[x]) (t := e) (fr := (0, 0)) (heap_alloc_new w (.cells #[x] e))
  exact hid (by simpa using this)
def readerB (L : Nat) (F G : Value) : Obj := .cells #[.int .i64 L, F, G] 75
def machine0 : Obj := .cells #[.int .i64 0, .slice none 0 0, .slice none 0 0] 25
def plW (W : World) (L : Nat) (F G : Value) : World := (W.alloc (readerB L F G)).alloc machine0
theorem below_plW (W : World) (L : Nat) (F G : Value) : Below W.heap.size W (plW W L F G) := ((Below.refl _ _).alloc (Nat.le_refl _) _).alloc (by simp) _
structure RdAt (W w : World) (L : Nat) (F G : Value) : Prop where
  c0 : w.cell? ⟨W.heap.size, 0, none⟩ = some (.int .i64 L)
  c1 : w.cell? ⟨W.heap.size, 1, none⟩ = some F
  c2 : w.cell? ⟨W.heap.size, 2, none⟩ = some G
  lt : W.heap.size < w.heap.size
theorem res_at {W w : World} {L : Nat} {F G : Value} {B : Nat} (h : Below B (plW W L F G) w) (hB : B = W.heap.size + 2) : w.rowIs (W.heap.size + 1) 25 3 (outF 0 (.slice none 0 0) (.slice none 0 0)) := by
  subst hB
  have h0 := (PlO.start (W.alloc (readerB L F G)) 0 (fun _ => []) (fun _ => undef)).out
  rw [show (W.alloc (readerB L F G)).heap.size = W.heap.size + 1 by simp] at h0
  exact rowIs_below (w := plW W L F G) h0 h (Nat.lt_succ_self _)
theorem rd_at {W w : World} {L : Nat} {F G : Value} {B : Nat} (h : Below B (plW W L F G) w) (hB : B = W.heap.size + 2) (hs : B ≤ w.heap.size) : RdAt W w L F G := by
  subst hB
  refine ⟨?_, ?_, ?_, by omega⟩ <;> (rw [h.cell (by simp)]; simp [plW, readerB, machine0])
theorem pl_start (W : World) (L : Nat) (F G : Value) : ∃ w4, (Instr.mapUpdate 114 (.map (some (W.heap.size + 3))) (.int .i64 0) (.int .i64 0)).run Try.prog
      (((plW W L F G).alloc (.cells #[.int .i64 0] 3)).alloc (.map #[] 0)) = .ok () w4 ∧ ∀ step R, PlI (plW W L F G) (W.heap.size + 2) (W.heap.size + 3) L step 0 (raw L step 0) (raw L step 0) (.slice (some ⟨W.heap.size + 2, 0, none⟩) 1 1) (.slice none 0 0) R w4 := by
  have h0 := mapOf_new Try.prog 3 ((plW W L F G).alloc (.cells #[.int .i64 0] 3))
  have hs : ((plW W L F G).alloc (.cells #[.int .i64 0] 3)).heap.size = W.heap.size + 3 := by simp [plW]
  rw [hs] at h0
  obtain ⟨w4, h1, h2, h3, h4⟩ := h0.insert law3 Try.underlying114 (x := .int .i64 0) (v := .int .i64 0) (key_int 0 (by decide) (by decide)) rfl
  refine ⟨w4, h1, fun step R => ?_⟩
  have hb : Below (W.heap.size + 2) (plW W L F G) (((plW W L F G).alloc (.cells #[.int .i64 0] 3)).alloc (.map #[] 0)) :=
    ((Below.refl _ _).alloc (by simp [plW]) _).alloc (by simp [plW]) _
  refine PlI.start (hb.grown h3 (by simp [plW]) fun k hk => by cases hk; exact Nat.le_succ _) _ ?_ ?_ (by omega) (by rw [h4]; simp [plW]) R
  · refine own_one (B := W.heap.size + 2) (m := W.heap.size + 2) (e := 3) w4 (.int .i64 0) ?_ (Nat.le_refl _)
    rw [h3.block (W.heap.size + 2) (by simp [plW]) (by simp)]
    have e := heap_alloc_new (plW W L F G) (.cells #[.int .i64 0] 3)
    rw [show (plW W L F G).heap.size = W.heap.size + 2 by simp [plW]] at e
    rw [Below.heap_alloc _ _ (W.heap.size + 2) (by simp [plW])]
    exact e
  · refine h2.congr fun x => ?_
    rw [show gN [0] = gN ([] ++ [(0 : Int)]) from rfl, ← gN_new (S := []) (by simp)]
    have e0 : gN [] x = none := by
      cases x with
      | int k t => cases k <;> simp [gN]
      | _ => rfl
    rw [e0]
    rfl

set_option maxRecDepth 100000 in
set_option maxHeartbeats 4000000 in
theorem plain_any (L : Nat) (step : Int → Nat → Int) (ac : Int → Bool) (lb ub : Int) (hA : AutoOK L step lb ub) (f g : Nat) (b c b2 c2 : Array Value) (W : World)
    (Hf : Hid (∀ w args, Sem.run Try.prog (callFunc f args) w = .ok (.enter f args) w))
    (HS : Hid (∀ w, Below W.heap.size W w → ∀ s, lb ≤ s → s < ub → ∀ a : Nat, a < L → Calls Try.prog f (b ++ (#[.int .i64 s, .int .i64 a] ++ c)) w fun e w' => e = .returned (.int .i64 (step s a)) ∧ Below w.heap.size w w'))
    (Hg : Hid (∀ w args, Sem.run Try.prog (callFunc g args) w = .ok (.enter g args) w))
    (HAc : Hid (∀ w, Below W.heap.size W w → ∀ s, lb ≤ s → s < ub → Calls Try.prog g (b2.push (.int .i64 s) ++ c2) w fun e w' => e = .returned (.bool (ac s)) ∧ Below w.heap.size w w')) :
    Calls Try.prog 65 #[.agg #[.int .i64 L, .func (.func f) b c, .func (.func g) b2 c2]] W (PlainPost W L (laA L step ac 0)) := by
  have hmm := @run_makeMap Try.prog
  obtain ⟨w4, hrun, hP⟩ := pl_start W L (.func (.func f) b c) (.func (.func g) b2 c2)
  simp [plW, readerB, machine0] at hrun
  have HP := hid hP
  clear hP
  have hl6 := hA.l6
  have HA := hid hA
  clear hA
  obtain ⟨i0, hi0, hz0, hz1, hz2⟩ := info_parts info3
  obtain ⟨i3, hi3, hy0, hy1, hy2⟩ := info_parts info33
  obtain ⟨i5, hi5, hx0, hx1, hx2⟩ := info_parts info5
  obtain ⟨i4, hi4, hw0, hw1, hw2⟩ := info_parts info4
  go_enter Try.func65, Try.ntmps65
  go_wp2_with fail
  clear hmm hrun
  have hP := HP.out step (fun _ => .slice none 0 0)
  clear HP
  generalize (Value.slice (some ⟨W.heap.size + 1 + 1, 0, none⟩) 1 1) = v40 at *
  go_loopw [4, 6, 7, 8, 9, 10, 11, 12, 41] (fun v4 v6 v7 v8 v9 v10 v11 v12 v41 w' => ∃ (i : Nat) (R : Nat → Value), i ≤ (raw L step i).length ∧ v7 = .int .i64 i ∧ PlI (plW W L (.func (.func f) b c) (.func (.func g) b2 c2)) (W.heap.size + 2) (W.heap.size + 3) L step i (raw L step i) (raw L step i) v4 v6 R w') (fun _ _ v7 _ _ _ _ _ _ _ => 5100 - (intOf v7).toNat)
  case atStart => exact ⟨0, _, by omega, rfl, hP⟩
  case round =>
    clear hP
    obtain ⟨i, R, hi, rfl, hI⟩ := hrel
    have hlS := raw_len HA.out i
    have hlR := hI.rows
    obtain ⟨a4, k4, e4, _⟩ := own_ints hI.own
    have hrd := rd_at hI.bl rfl hI.sz
    have r0 := hrd.c0
    have rl := hrd.lt
    clear hrd hlR
    by_cases hlt : i < (raw L step i).length
    · have HI := hid hI
      have E4 := hid e4
      clear hI
      subst e4
      have i2 : (i : Int) < ((raw L step i).length : Int) := by omega
      go_wp2_with fail
      go_loopw [4, 8, 9, 10, 11, 12, 41] (fun v4 v8 v9 v10 v11 v12 v41 w' => ∃ a : Nat, a ≤ L ∧ v41 = .int .i64 a ∧ PlJ (plW W L (.func (.func f) b c) (.func (.func g) b2 c2)) (W.heap.size + 2) (W.heap.size + 3) L step i a (part L step i a) (part L step i a) v4 u6 v8 R w') (fun _ _ _ _ _ _ v41 _ => L - (intOf v41).toNat)
      case atStart => exact ⟨0, by omega, rfl, HI.out.inner⟩
      case round =>
        clear E4 HI
        obtain ⟨a, ha, rfl, hJ⟩ := hrel
        have hpl := part_len HA.out i a hlt ha
        by_cases hla : a < L
        · obtain ⟨hig, hgt⟩ := part_get L step i a hlt
          obtain ⟨a4, k4, e4, h4, _, _⟩ := own_ints hJ.I.own
          obtain ⟨b4, o4, e4', hb4, c4⟩ := h4 i hig
          have hrd := rd_at hJ.I.bl rfl hJ.I.sz
          have r1 := hrd.c1
          have rl := hrd.lt
          have hin := raw_in HA.out i ((raw L step i).getD i 0) (by simp [List.getD, hlt])
          have hbW : Below W.heap.size W wr := (((Below.refl _ _).alloc (Nat.le_refl _) _).alloc (by simp) _ : Below W.heap.size W (plW W L (.func (.func f) b c) (.func (.func g) b2 c2))).trans (hJ.I.bl.mono (by omega))
          have hxb := HA.out.cl _ hin.1 hin.2 a hla
          have hC := HS.out wr.drew hbW.drew _ hin.1 hin.2 a hla
          have HO := hid (part_old L step i a)
          have HF := hid (part_fresh L step i a)
          have HR := hid (rowP_succ L step i a)
          rw [hgt] at c4
          rw [e4'] at e4
          clear hrd hgt h4 hin hbW e4'
          generalize (raw L step i).getD i 0 = s at *
          generalize step s a = x at *
          have HJ := hid hJ
          have HC := hid hC
          clear hJ hC
          subst e4
          have i1 : (0 : Int) ≤ (i : Int) := by omega
          have i2 : (i : Int) < ((part L step i a).length : Int) := by omega
          have i3 : (a : Int) < (L : Int) := by omega
          go_wp2_with fail
          refine wp_region_still_tail 7 (by kernel_rfl) (by kernel_rfl) ?_
          simp only [List.take_succ_cons, List.take_zero, List.drop_succ_cons, List.drop_zero]
          refine St.out ?_
          iterate 7 (refine st_want (by kernel_rfl) (fun K hK => ?_); go_simp; refine hK _ ?_; clear hK K)
          refine st_nil ?_
          change wpList _ _ _ _ _ wr.drew
          go_wp2_with fail
          rw [Hf.out, Oper.upon_enter]
          refine HC.out.mono ?_; rintro e w1 ⟨rfl, hb1⟩
          have hJ1 := HJ.out.below (undrew hb1)
          clear HC HJ hb1 r1 rl r0 c4
          have hxl : -9223372036854775808 ≤ x := by have := HA.out.lom; omega
          have hxu : x ≤ 9223372036854775807 := by have := HA.out.him; omega
          by_cases hs : x ∈ part L step i a
          · have ex := HO.out hs
            have hlook := hJ1.I.map.look_yes law3 Try.underlying114 (key_int x hxl hxu) (gN_yes hs) true
            have hR := HR.out
            rw [ex] at hR
            have HR1 := hid hR
            have Hex := hid ex
            have hlook' : (Instr.lookup 114 (.map (some (W.heap.size + 1 + 1 + 1))) (.int .i64 x) true).run Try.prog w1 = .ok (.tuple #[.int .i64 (idx (part L step i a) x : Nat), .bool true]) w1 := hlook
            have HJ := hid hJ1
            clear hlook hR ex hJ1 HR HO HF hs
            have hsz := HJ.out.I.sz
            generalize idx (part L step i a) x = n at *
            go_wp2_with (at_builtin; go_loud (refine wpList_append_own_at (o := ⟨some 72, _, _, _, _, _⟩) _ rfl _ _ 33 rfl (W.heap.size + 2) 3 i0 (.int .i64 0) 1 8 Try.underlying33 hi0 hz0 hz1 hz2 rfl (by decide) _ _ _ rfl (HJ.out.own8.alloc _) ⟨w1.heap.size, 0, none⟩ 1 1 [.int .i64 (n : Nat)] rfl rfl (news_one w1 (.int .i64 (n : Nat)) 3).out (by simp [Value.oneCell']) (by unfold maxLen; omega) (by omega) (by simp; omega) ?_); intro v' w6 hown6 hgrow6 _ hat6)
            rw [HR1.out] at hown6
            have hJ6 := HJ.out.push8 hgrow6 hown6 hat6
            clear HJ hgrow6 hown6 hat6
            go_wp2_with fail
            go_roundw
            case rel => exact ⟨a + 1, by omega, by go_num, by rw [Hex.out]; exact hJ6⟩
            case measure => simp [intOf]; omega
          · obtain ⟨ef, en⟩ := HF.out hs
            have hlook' : (Instr.lookup 114 (.map (some (W.heap.size + 1 + 1 + 1))) (.int .i64 x) true).run Try.prog w1 = .ok (.tuple #[.int .i64 0, .bool false]) w1 := hJ1.I.map.look_no law3 Try.underlying114 (zero3 w1) (key_int x hxl hxu) (gN_no hs) true
            obtain ⟨w2, hrun2, hM2, hg2, hz9⟩ := hJ1.I.map.insert law3 Try.underlying114 (v := .int .i64 ((part L step i a).length : Nat)) (key_int x hxl hxu) (gN_no hs)
            have hM3 := hM2.congr (gN_new hs)
            have hlen : (part L step i (a + 1)).length = (part L step i a).length + 1 := by rw [ef]; simp
            rw [← ef, ← hlen] at hM3
            have HJ2 := hid (hJ1.insert hg2 hM3)
            have HE : Hid ((part L step i a).map (Value.int .i64) ++ [.int .i64 x] = (part L step i (a + 1)).map (Value.int .i64)) := hid (by rw [ef]; simp)
            have hR := HR.out
            rw [en] at hR
            have HR1 := hid hR
            have Hlen := hid hlen
            have hrun' : (Instr.mapUpdate 114 (.map (some (W.heap.size + 1 + 1 + 1))) (.int .i64 x) (.int .i64 ((part L step i a).length : Nat))).run Try.prog w1 = .ok () w2 := hrun2
            clear hz9 hM2 hg2 hM3 hrun2 hR hlen ef en HR HO HF hs hJ1
            have hsz := HJ2.out.I.sz
            go_wp2_with (first | (at_builtin; go_loud (refine wpList_append_own_at (o := ⟨some 68, _, _, _, _, _⟩) _ rfl _ _ 33 rfl (W.heap.size + 2) 3 i0 (.int .i64 0) 1 8 Try.underlying33 hi0 hz0 hz1 hz2 rfl (by decide) _ _ _ rfl (HJ2.out.I.own.alloc _) ⟨w2.heap.size, 0, none⟩ 1 1 [.int .i64 x] rfl rfl (news_one w2 (.int .i64 x) 3).out (by simp [Value.oneCell']) (by unfold maxLen; omega) (by omega) (by simp; omega) ?_); intro v3 w3 hown3 hgrow3 _ hat3; rw [HE.out] at hown3; have HJ3 := (hid (HJ2.out.push (S' := part L step i (a + 1)) hgrow3 (Hlen.out ▸ hown3) hat3)); have hsz3 := HJ3.out.I.sz; clear hown3 hgrow3 hat3) | (at_builtin; go_loud (refine wpList_append_own_at (o := ⟨some 72, _, _, _, _, _⟩) _ rfl _ _ 33 rfl (W.heap.size + 2) 3 i0 (.int .i64 0) 1 8 Try.underlying33 hi0 hz0 hz1 hz2 rfl (by decide) _ _ _ rfl (HJ3.out.own8.alloc _) ⟨w3.heap.size, 0, none⟩ 1 1 [.int .i64 ((part L step i a).length : Nat)] rfl rfl (news_one w3 (.int .i64 ((part L step i a).length : Nat)) 3).out (by simp [Value.oneCell']) (by unfold maxLen; omega) (by omega) (by simp; omega) ?_); intro v' w6 hown6 hgrow6 _ hat6))
            rw [HR1.out] at hown6
            have hJ6 := HJ3.out.push8 hgrow6 hown6 hat6
            clear HJ2 HJ3 hgrow6 hown6 hat6
            go_wp2_with fail
            go_roundw
            case rel => exact ⟨a + 1, by omega, by go_num, hJ6⟩
            case measure => simp [intOf]; omega
        · obtain rfl : a = L := by omega
          have hpa := part_all (step := step) i hlt
          have hgo := (raw_pre (L := a) (step := step) (show i ≤ i + 1 by omega)).length_le
          obtain ⟨a8, k8, e8⟩ := row_shape hJ.own8
          obtain ⟨a6, k6, e6⟩ := row_shape hJ.I.rows
          rw [hpa] at hJ
          subst e8
          subst e6
          have HJ := hid hJ
          have hsz := hJ.I.sz
          have hrd := rd_at hJ.I.bl rfl hJ.I.sz
          have Hpa := hid hpa
          clear hpl ha hJ hpa hrd
          go_wp2_with (at_builtin; go_loud (refine wpList_append_own_at (o := ⟨some 77, _, _, _, _, _⟩) _ rfl _ _ 22 rfl (W.heap.size + 2) 33 i3 (.slice none 0 0) 1 24 Try.underlying22 hi3 hy0 hy1 hy2 rfl (by decide) _ _ _ rfl (HJ.out.I.rows.alloc _) ⟨wr.heap.size, 0, none⟩ 1 1 [.slice a8 a k8] rfl rfl (news_one wr (.slice a8 a k8) 33).out (by simp [Value.oneCell']) (by unfold maxLen; omega) (by omega) (by simp; omega) ?_); intro v' w6 hown6 hgrow6 _ hat6)
          have hI6 := HJ.out.close hgrow6 hown6
          clear HJ hgrow6 hown6 hat6
          go_wp2_with fail
          go_roundw
          case rel => exact ⟨i + 1, _, by omega, by go_num, hI6⟩
          case measure => simp [intOf]; omega
    · have hE := raw_end HA.out i (by omega)
      have hS := hI.done (by omega)
      have hSi := raw_in HA.out i
      clear hI hi
      generalize raw L step i = S at *
      subst e4
      obtain ⟨V, hV⟩ : ∃ V, V = wr := ⟨_, rfl⟩
      subst hV
      have HS4 := hid hS
      have HE := hid hE
      have HSi := hid hSi
      have hN1 := hE.pos
      clear hS hE hSi
      go_wp2_with (refine wpList_make_int (o := ⟨some 80, _, _, _, _, _⟩) _ rfl _ _ 33 rfl 3 (.int .i64 0) 8 Try.underlying33 info3 rfl .i64 .i64 _ _ S.length rfl rfl rfl rfl (by omega) (by omega) ?_; intro w1 hr1 hz1 hb1)

      clear hz1 hlt
      have hr0 := bit_zero (acA ac S) hr1
      clear hr1
      go_loopw [14, 15, 83] (fun v14 v15 v83 w' => ∃ k : Nat, k ≤ S.length ∧ v83 = .int .i64 k ∧ w'.rowIs V.heap.size 3 S.length (rowI (bitN (acA ac S) k)) ∧ Below V.heap.size V w') (fun _ _ v83 _ => S.length - (intOf v83).toNat)
      case atStart => exact ⟨0, by omega, rfl, hr0, hb1⟩
      case round =>
        clear hr0 hb1
        obtain ⟨k, hk, rfl, q1, hb⟩ := hrel
        by_cases hlt : k < S.length
        · have hown := own_below HS4.out.own hb
          obtain ⟨a5, k5, e5, h4, _, _⟩ := own_ints hown
          cases e5
          obtain ⟨b4, o4, e6, hb4, c4⟩ := h4 k hlt
          subst e6
          have hrd := rd_at (HS4.out.bl.trans (hb.mono HS4.out.sz)) rfl (Nat.le_trans HS4.out.sz hb.size)
          have r1 := hrd.c2
          have rl := hrd.lt
          have hin := HSi.out (nth S k) (by simp [nth, List.getD, hlt])
          have hbW : Below W.heap.size W wr := (below_plW W L (.func (.func f) b c) (.func (.func g) b2 c2)).trans ((HS4.out.bl.trans (hb.mono HS4.out.sz)).mono (by omega))
          have HC := hid (HAc.out wr hbW _ hin.1 hin.2)
          have i1 : (0 : Int) ≤ (k : Int) := by omega
          have i2 : (k : Int) < (S.length : Int) := by omega
          clear hown h4 hin hbW hrd
          go_wp2_with fail
          rw [Hg.out, Oper.upon_enter]
          refine HC.out.mono ?_; rintro e w1 ⟨rfl, hb1⟩
          have q2 := rowIs_below q1 hb1 q1.lt
          have hb2 := hb.trans (hb1.mono hb.size)
          clear HC q1 hb hb1 r1 c4
          have ha : acA ac S k = ac (nth S k) := rfl
          generalize ac (nth S k) = x at *
          have z1 := q2.cell hlt
          have y1 := q2.frozen k
          have hltV := q2.lt
          unfold rowI at z1
          cases x with
          | true =>
            have t1 := bit_yes q2 ha
            clear q2 ha
            go_wp2_with fail
            go_roundw
            case rel => exact ⟨k + 1, by omega, by go_num, t1, hb2.setCell (p := ⟨V.heap.size, k, none⟩) (Nat.le_refl _) _⟩
            case measure => simp [intOf]; omega
          | false =>
            have t1 := bit_no q2 ha
            clear q2 ha
            go_wp2_with fail
            go_roundw
            case rel => exact ⟨k + 1, by omega, by go_num, t1, hb2⟩
            case measure => simp [intOf]; omega
        · obtain rfl : k = S.length := by omega
          have q0 := bit_end (L := L) (nx := nxA step S) q1
          clear q1
          have hbV := q0.lt
          go_wp2_with fail
          go_loopw [13, 16, 17, 18, 19, 20, 22, 23, 24, 102, 122] (fun v13 v16 v17 v18 v19 v20 v22 v23 v24 v102 v122 w' => ∃ (κ cb : Nat), v13 = .slice (some ⟨cb, 0, none⟩) S.length S.length ∧ w'.rowIs cb 3 S.length (rowI (clsN (cI S.length L (nxA step S) (acA ac S) κ))) ∧ V.heap.size ≤ cb ∧ v16 = .int .i64 (prI S.length L (nxA step S) (acA ac S) κ : Nat) ∧ Below V.heap.size V w') (fun _ v16 _ _ _ _ _ _ _ _ _ _ => S.length + 1 - (intOf v16).toNat)
          case atStart => exact ⟨0, V.heap.size, rfl, q0, Nat.le_refl _, rfl, hb⟩
          case round =>
            clear q0 hb hbV hlt
            obtain ⟨κ, cb, rfl, q1, hcb, rfl, hb⟩ := hrel
            have hown := own_below HS4.out.own hb
            obtain ⟨Y, hY⟩ : ∃ Y, Y = wr := ⟨_, rfl⟩
            subst hY
            have HNX := hid (nx_ok HE.out)
            have hcbl := q1.lt
            clear hown
            generalize hck : cI S.length L (nxA step S) (acA ac S) κ = ck at *
            have hmm := @run_makeMap Try.prog
            go_wp2_with (refine wpList_make_int (o := ⟨some 99, _, _, _, _, _⟩) _ rfl _ _ 33 rfl 3 (.int .i64 0) 8 Try.underlying33 info3 rfl .i64 .i64 _ _ S.length rfl rfl rfl rfl (by omega) (by omega) ?_; intro w1 hr1 hz1 hb1)
            clear hmm
            have m1 := (mapOf_new Try.prog 9 Y).below hb1 (by simp)
            have m2 := m1.congr (fun x => (gK_nil x).symm)
            rw [show (Y.alloc (.map #[] 0)).heap.size = Y.heap.size + 1 by simp] at hr1 hz1 hb1
            have n1 := nam_zero (key L (nxA step S) ck) hr1
            have b1 := (below_alloc Y (.map #[] 0)).trans (hb1.mono (by omega))
            clear m1 hr1 hb1
            go_wp2_with fail
            go_loopw [19, 20, 22, 23, 24, 102, 122] (fun v19 v20 v22 v23 v24 v102 v122 w' => ∃ j : Nat, j ≤ S.length ∧ v102 = .int .i64 j ∧ MapOf Try.prog 9 w' Y.heap.size (nubN (key L (nxA step S) ck) j).length (gK (nubN (key L (nxA step S) ck) j)) ∧ w'.rowIs (Y.heap.size + 1) 3 S.length (rowI (namN (key L (nxA step S) ck) S.length j)) ∧ Below Y.heap.size Y w') (fun _ _ _ _ _ v102 _ _ => S.length - (intOf v102).toNat)
            case atStart => exact ⟨0, by omega, rfl, m2, n1, b1⟩
            case round =>
              clear m2 n1 b1 hz1
              obtain ⟨j, hj, rfl, hm, n1, b1⟩ := hrel
              by_cases hlt : j < S.length
              · obtain ⟨Z, hZ⟩ : ∃ Z, Z = wr := ⟨_, rfl⟩
                subst hZ
                have qz := rowIs_below q1 b1 hcbl
                have zc := qz.cell hlt
                have rows := own_below HS4.out.rows (hb.trans (b1.mono hb.size))
                obtain ⟨b6, k6, e6, hb6, c6⟩ := own_cell rows j hlt
                cases e6
                have rj := own_below (HS4.out.rs j hlt) (hb.trans (b1.mono hb.size))
                obtain ⟨aj, kj, ej⟩ := row_shape rj
                rw [List.getElem?_map, List.getElem?_range hlt, Option.map_some, ej] at c6
                rw [ej] at rj
                have HRj := hid rj
                unfold rowI clsN at zc
                have i1 : (0 : Int) ≤ (j : Int) := by omega
                have i2 : (j : Int) < (S.length : Int) := by omega
                have hlq := qz.lt
                clear rows rj ej
                go_wp2_with fail
                go_region
                have lit := lit_bytes Z (.int .u8 ((ck j : Int) % 256)) (.int .u8 ((ck j : Int) / 256 % 256))
                rw [← keyU_one (nxA step S) ck j] at lit
                go_wp2_with fail
                go_loopw [20, 22, 122] (fun v20 v22 v122 w' => ∃ a : Nat, a ≤ L ∧ v122 = .int .i64 a ∧ w'.ownsRow Z.heap.size 5 1 v20 (2 * (a + 1)) (byV (keyU (nxA step S) ck j (a + 1))) ∧ Below Z.heap.size Z w') (fun _ _ v122 _ => L - (intOf v122).toNat)
                case atStart => exact ⟨0, by omega, rfl, lit, ((Below.refl _ _).alloc (Nat.le_refl _) _).drew⟩
                case round =>
                  clear lit c6 zc
                  obtain ⟨a, ha, rfl, hown, hz⟩ := hrel
                  by_cases hla : a < L
                  · obtain ⟨b7, k7, e7, hb7, c7⟩ := own_cell (own_below HRj.out hz) a hla
                    cases e7
                    rw [rowA_get L step S j a hla] at c7
                    have ht := HNX.out.lt j hlt a hla
                    have HK := hid (keyU_more (nxA step S) ck j a)
                    have zc := (rowIs_below qz hz hlq).cell ht
                    have hlq2 := (rowIs_below qz hz hlq).lt
                    unfold rowI clsN at zc
                    have i3' : (0 : Int) ≤ (a : Int) := by omega
                    have i4 : (a : Int) < (L : Int) := by omega
                    generalize nxA step S j a = t at *
                    have i5' : (0 : Int) ≤ (t : Int) := by omega
                    have i6 : (t : Int) < (S.length : Int) := by omega
                    have Hown := hid hown
                    have Hne : Hid (u20.ownBlock ≠ some cb) := hid (fun h => by have := (Hown.out.lt _ h).1; omega)
                    clear hown
                    have hzs := hz.size
                    go_wp2_with fail
                    go_region_held3 (fun w' => w'.cell? ⟨cb, t, none⟩ = some (.int .i64 (ck t : Nat)) ∧ cb < w'.heap.size) (first | exact ⟨zc, hlq2⟩ | exact keepC (row := none) (but_drew (World.grownBy_alloc _ _ none)) (fun h => by cases h) (by assumption) | exact keepC hgrow Hne.out (by assumption) | assumption) (first | (refine step_append_own (by rfl) _ _ _ (by rfl) Z.heap.size 5 i5 (.int .u8 0) 1 1 Try.underlying117 hi5 hx0 hx1 hx2 rfl (by omega) u20 (2 * (a + 1)) (byV (keyU (nxA step S) ck j (a + 1))) (by rfl) (Hown.out.drew.alloc _) ⟨wr.heap.size, 0, none⟩ 2 2 [.int .u8 (IntKind.u8.wrap (ck t : Int)), .int .u8 (IntKind.u8.wrap ((ck t : Int) / 256))] (by rfl) (by rfl) (World.news_of_block (cs := #[.int .u8 (IntKind.u8.wrap (ck t : Int)), .int .u8 (IntKind.u8.wrap ((ck t : Int) / 256))]) (t := 5) (fr := (0, 0)) (heap_alloc_new wr.drew _)) (by simp [Value.oneCell']) (by unfold maxLen; omega) (by omega) (by simp; omega) ?_; intro v' w3 hown1 hgrow))
                    rw [wrap8, wrap8, HK.out] at hown1
                    have hz3 := (hz.alloc hz.size _).drew.grown hgrow (by simp; omega) (fun t ht => (Hown.out.lt _ ht).1)
                    clear Hown Hne HK hgrow zc
                    go_wp2_with fail
                    go_roundw
                    case rel => exact ⟨a + 1, by omega, by go_num, hown1, hz3⟩
                    case measure => simp [intOf]; omega
                  · obtain rfl : L = a := by omega
                    have hkl := keyU_len (nxA step S) ck j (L + 1)
                    have hconv := conv_own hown hkl.symm (by omega)
                    rw [show keyU (nxA step S) ck j (L + 1) = key L (nxA step S) ck j from rfl] at hconv hkl hown
                    have m1 := hm.below hz hm.lt
                    have q2 := rowIs_below n1 hz n1.lt
                    have hlF := q2.lt
                    have z1 := q2.cell hlt
                    have y1 := q2.frozen j
                    unfold rowI at z1
                    have hkey := key_str (key L (nxA step S) ck j) (by rw [hkl]; unfold maxLen; omega)
                    have b2' := b1.trans (hz.mono b1.size)
                    have HX := hid (And.intro hm hown)
                    have hts := nam_step (κ := key L (nxA step S) ck) hlt (w := wr) (b := Y.heap.size + 1) (t := 3)
                    clear hm hown n1 b1 hz HRj
                    generalize hκ : key L (nxA step S) ck = κ' at *
                    have Hκ := hid hκ
                    clear hκ
                    by_cases hmem : κ' j ∈ nubN κ' j
                    · have hl1 := m1.look_yes law9 Try.underlying116 hkey (gK_yes hmem) true
                      have hl2 := m1.look_yes law9 Try.underlying116 hkey (gK_yes hmem) false
                      simp only [if_true, Bool.false_eq_true, if_false] at hl1 hl2
                      have hx := nub_old hmem
                      rw [hx] at hts
                      have Ht := hid (hts q2)
                      have Hx := hid hx
                      have Hm := hid m1
                      clear hts hx q2 hmem hkey hkl m1 HX
                      generalize idx (nubN κ' j) (κ' j) = n at *
                      go_wp2_with fail
                      go_roundw
                      case rel => rw [Hκ.out]; exact ⟨j + 1, by omega, by go_num, by rw [Hx.out]; exact Hm.out.of_block (Below.heap_setCell wr ⟨Y.heap.size + 1, j, none⟩ _ Y.heap.size (by show Y.heap.size ≠ Y.heap.size + 1; omega)), Ht.out, b2'.setCell (p := ⟨Y.heap.size + 1, j, none⟩) (Nat.le_succ _) _⟩
                      case measure => simp [intOf]; omega
                    · obtain ⟨ex, en⟩ := nub_new hmem
                      have hl1 := m1.look_no law9 Try.underlying116 (zero3 wr) hkey (gK_no hmem) true
                      simp only [if_true] at hl1
                      obtain ⟨w2, hrun, M2, g2, z2⟩ := m1.insert law9 Try.underlying116 (v := .int .i64 ((nubN κ' j).length : Nat)) hkey (gK_no hmem)
                      have M3 := M2.congr (gK_new hmem)
                      have hlen : (nubN κ' (j + 1)).length = (nubN κ' j).length + 1 := by rw [ex]; simp
                      rw [← ex, ← hlen] at M3
                      have hl2 := M3.look_yes law9 Try.underlying116 hkey (gK_yes (by rw [ex]; simp)) false
                      simp only [Bool.false_eq_true, if_false] at hl2
                      have hconv2 := conv_own (HX.out.2.kept g2 (.inr (m1.own_ne HX.out.2))) hkl.symm (by omega)
                      have q3 := rowIs_map q2 m1 g2 (by omega)
                      have z3 := q3.cell hlt
                      have y3 := q3.frozen j
                      have hlF3 := q3.lt
                      unfold rowI at z3
                      have b3 := b2'.grown g2 (by have := m1.lt; omega) (fun t ht => by cases ht; exact Nat.le_refl _)
                      have hts2 := nam_step (κ := κ') hlt q3
                      have Ht := hid hts2
                      have Hm := hid M3
                      have hl3 := run_len_map (ty := 3) Try.underlying116 m1
                      clear hts hts2 q2 q3 hmem hkey hkl m1 M2 M3 g2 z2 z1 y1 hlF HX hlen ex en
                      generalize idx (nubN κ' (j + 1)) (κ' j) = n at *
                      go_wp2_with fail
                      go_roundw
                      case rel => rw [Hκ.out]; exact ⟨j + 1, by omega, by go_num, Hm.out.of_block (Below.heap_setCell w2 ⟨Y.heap.size + 1, j, none⟩ _ Y.heap.size (by show Y.heap.size ≠ Y.heap.size + 1; omega)), Ht.out, b3.setCell (p := ⟨Y.heap.size + 1, j, none⟩) (Nat.le_succ _) _⟩
                      case measure => simp [intOf]; omega
              · obtain rfl : j = S.length := by omega
                have hl := run_len_map (ty := 3) Try.underlying116 hm
                rw [show (nubN (key L (nxA step S) ck) S.length).length = pI S.length L (nxA step S) (acA ac S) κ by rw [← hck]; rfl] at hl
                have n2 : wr.rowIs (Y.heap.size + 1) 3 S.length (rowI (clsN (cI S.length L (nxA step S) (acA ac S) (κ + 1)))) := by
                  rw [← hck] at n1
                  exact nam_end n1
                have hpm := prI_le (acc := acA ac S) HNX.out κ
                have hpN := pI_le (N := S.length) (L := L) (nx := nxA step S) (acc := acA ac S) κ
                have hpE := prI_end (L := L) (nx := nxA step S) (acc := acA ac S) hN1 κ
                have hb2 := hb.trans (b1.mono hb.size)
                have hYV := hb.size
                have HP : Hid (prI S.length L (nxA step S) (acA ac S) (κ + 1) = pI S.length L (nxA step S) (acA ac S) κ) := hid rfl
                clear hm n1 b1 hck q1 hcb hcbl hb
                generalize hp : pI S.length L (nxA step S) (acA ac S) κ = p at *
                generalize hq : prI S.length L (nxA step S) (acA ac S) κ = q at *
                have HPP := hid hp
                have HQ := hid hq
                have HE2 := hid hpE
                have N2 := hid n2
                clear hp hq hpE n2
                by_cases he : p = q
                · have d : ((p : Int) == (q : Int)) = true := by rw [he]; exact beq_self_eq_true _
                  obtain ⟨κ', ek, eq⟩ := HE2.out he
                  have N3 := N2.out
                  rw [ek] at N3
                  have hrd := rd_at (HS4.out.bl.trans (hb2.mono HS4.out.sz)) rfl (Nat.le_trans HS4.out.sz hb2.size)
                  have r0 := hrd.c0
                  have rl := hrd.lt
                  obtain ⟨U, hU⟩ : ∃ U, U = wr := ⟨_, rfl⟩
                  subst hU
                  have N4 : Hid (U.rowIs (Y.heap.size + 1) 3 S.length (rowI (clsN (cname (lgA L step ac S) S.length)))) := hid (N3.congr fun i hi => by
                    unfold rowI clsN
                    rw [class_end HNX.out (lang_ok HE.out) κ' eq i hi])
                  have HG : Hid (∀ i, i < S.length → rowC S.length (lgA L step ac S) (nxA step S) i L = canRow L (forms L step ac S) (lgA L step ac S i)) := hid (fun i hi => by
                    rw [← class_row (ac := ac) HE.out κ' eq i hi]
                    unfold rowC
                    refine List.map_congr_left fun a ha => ?_
                    rw [class_end HNX.out (lang_ok HE.out) κ' eq _ (HNX.out.lt i hi a (List.mem_range.1 ha))])
                  have HU := hid hb2
                  clear N2 N3 HPP HP HE2 HQ hrd ek eq hb2
                  go_wp2_with fail
                  clear hl r0 rl
                  have hO := PlO.start U L (fun k => (canNext L (forms L step ac S)).getD k []) (fun _ => .slice none 0 0)
                  go_loopw [26, 27, 29, 175, 191] (fun v26 v27 v29 v175 v191 w' => ∃ (i' : Nat) (vn vb : Value) (Q : Nat → Value), i' ≤ S.length ∧ v175 = .int .i64 i' ∧ PlO U L (nubN (lgA L step ac S) i').length (fun k => (canNext L (forms L step ac S)).getD k []) (canAcc (nubN (lgA L step ac S) i')) vn vb Q w') (fun _ _ _ v175 _ _ => S.length - (intOf v175).toNat)
                  case atStart => exact ⟨0, _, _, _, by omega, rfl, hO⟩
                  case round =>
                    clear hO
                    obtain ⟨i', vn, vb, Q, hi', rfl, hO⟩ := hrel
                    obtain ⟨an, kn, en⟩ := row_shape hO.nx
                    obtain ⟨ab, kb, eb⟩ := row_shape hO.ac
                    subst en
                    subst eb
                    have o1 := hO.out.cell (i := 1) (by omega)
                    have hbU := hO.bl.size
                    have hltO := hO.out.lt
                    simp only [outF, if_true, if_false, show (1 : Nat) ≠ 0 by omega, ite_true, ite_false] at o1
                    by_cases hlt7 : i' < S.length
                    · have n4 := rowIs_below N4.out hO.bl N4.out.lt
                      have z4 := n4.cell hlt7
                      have hl4 := n4.lt
                      unfold rowI clsN at z4
                      have i1 : (0 : Int) ≤ (i' : Int) := by omega
                      have i2 : (i' : Int) < (S.length : Int) := by omega
                      clear n4
                      by_cases hnew : lgA L step ac S i' ∈ nubN (lgA L step ac S) i'
                      · have hc : cname (lgA L step ac S) S.length i' ≠ (nubN (lgA L step ac S) i').length := fun h => (class_new _ _ _ hlt7).1 h hnew
                        have HO := hid (lang_old hnew)
                        have HX := hid hO
                        clear hnew hO
                        generalize cname (lgA L step ac S) S.length i' = c at *
                        generalize hn : (nubN (lgA L step ac S) i').length = n at *
                        have Hn := hid hn
                        clear hn
                        have d : ((c : Int) == (n : Int)) = false := beq_eq_false_iff_ne.2 (by omega)
                        go_wp2_with fail
                        go_region
                        go_wp2_with fail
                        go_roundw
                        case rel => exact ⟨i' + 1, _, _, Q, by omega, by go_num, by rw [HO.out, Hn.out]; exact HX.out.below (Below.refl _ _).drew⟩
                        case measure => simp [intOf]; omega
                      · have hc := (class_new (lgA L step ac S) _ _ hlt7).2 hnew
                        rw [hc] at z4
                        have hrn := row_new (L := L) hlt7 hnew
                        have rows := own_below HS4.out.rows (HU.out.trans (hO.bl.mono HU.out.size))
                        obtain ⟨b6, k6, e6, hb6, c6⟩ := own_cell rows i' hlt7
                        cases e6
                        have rj := own_below (HS4.out.rs i' hlt7) HU.out
                        obtain ⟨aj, kj, ej⟩ := row_shape rj
                        rw [List.getElem?_map, List.getElem?_range hlt7, Option.map_some, ej] at c6
                        rw [ej] at rj
                        have HRj := hid rj
                        have HNA := hid (And.intro (lang_new hnew) (acc_new hnew))
                        have hRG := HG.out i' hlt7
                        rw [show forms L step ac S = nubN (lgA L step ac S) S.length from rfl] at hRG hO ⊢
                        have HRG := hid (hRG.trans hrn.symm)
                        have hlN := nubN_le (lgA L step ac S) i'
                        clear hnew hrn hRG rows rj ej hc
                        have HX := hid hO
                        clear hO
                        go_wp2_with fail
                        go_region
                        go_wp2_with fail
                        have HX := hid (HX.out.below (Below.refl _ _).drew)
                        go_loopw [27, 29, 191] (fun v27 v29 v191 w' => ∃ b' : Nat, b' ≤ L ∧ v191 = .int .i64 b' ∧ PlR U L (nubN (lgA L step ac S) i').length (fun k => (canNext L (nubN (lgA L step ac S) S.length)).getD k []) (canAcc (nubN (lgA L step ac S) i')) (.slice an (nubN (lgA L step ac S) i').length kn) (.slice ab (canAcc (nubN (lgA L step ac S) i')).length kb) v27 Q b' (rowC S.length (lgA L step ac S) (nxA step S) i' b') w') (fun _ _ v191 _ => L - (intOf v191).toNat)
                        case atStart => exact ⟨0, by omega, rfl, HX.out.fresh⟩
                        case round =>
                          clear HX o1 z4 c6 hltO hbU
                          obtain ⟨b', hb', rfl, hR⟩ := hrel
                          have hbU := hR.O.bl.size
                          by_cases hlb : b' < L
                          · obtain ⟨b7, k7, e7, hb7, c7⟩ := own_cell (own_below HRj.out hR.O.bl) b' hlb
                            cases e7
                            rw [rowA_get L step S i' b' hlb] at c7
                            have ht := HNX.out.lt i' hlt7 b' hlb
                            have n4 := rowIs_below N4.out hR.O.bl N4.out.lt
                            have z4 := n4.cell ht
                            have hl4 := n4.lt
                            unfold rowI clsN at z4
                            have HK := hid (rowC_succ S.length (lgA L step ac S) (nxA step S) i' b')
                            have HR := hid hR
                            have i3' : (0 : Int) ≤ (b' : Int) := by omega
                            have i4 : (b' : Int) < (L : Int) := by omega
                            clear n4 hR
                            generalize nxA step S i' b' = t at *
                            have i5' : (0 : Int) ≤ (t : Int) := by omega
                            have i6 : (t : Int) < (S.length : Int) := by omega
                            generalize cname (lgA L step ac S) S.length t = x at *
                            go_wp2_with (at_builtin; go_loud (refine wpList_append_own_at (o := ⟨some 201, _, _, _, _, _⟩) _ rfl _ _ 33 rfl (U.heap.size + 1) 3 i0 (.int .i64 0) 1 8 Try.underlying33 hi0 hz0 hz1 hz2 rfl (by decide) _ _ _ rfl (HR.out.own.alloc _) ⟨wr.heap.size, 0, none⟩ 1 1 [.int .i64 (x : Nat)] rfl rfl (news_one wr (.int .i64 (x : Nat)) 3).out (by simp [Value.oneCell']) (by unfold maxLen; omega) (by omega) (by simp; omega) ?_); intro v' w6 hown6 hgrow6 _ hat6)
                            rw [HK.out] at hown6
                            have hR6 := HR.out.push hgrow6 hown6 hat6
                            clear HR hgrow6 hown6 hat6 HK
                            go_wp2_with fail
                            go_roundw
                            case rel => exact ⟨b' + 1, by omega, by go_num, hR6⟩
                            case measure => simp [intOf]; omega
                          · obtain rfl : L = b' := by omega
                            rw [HRG.out] at hR
                            obtain ⟨a27, k27, e27⟩ := row_shape hR.own
                            subst e27
                            have HR := hid hR
                            have o1 := hR.O.out.cell (i := 1) (by omega)
                            have hltO := hR.O.out.lt
                            simp only [outF, if_true, if_false, show (1 : Nat) ≠ 0 by omega, ite_true, ite_false] at o1
                            clear hR
                            go_wp2_with (at_builtin; go_loud (refine wpList_append_own_at (o := ⟨some 207, _, _, _, _, _⟩) _ rfl _ _ 22 rfl (U.heap.size + 1) 33 i3 (.slice none 0 0) 1 24 Try.underlying22 hi3 hy0 hy1 hy2 rfl (by decide) _ _ _ rfl (HR.out.O.nx.alloc _) ⟨wr.heap.size, 0, none⟩ 1 1 [.slice a27 L k27] rfl rfl (news_one wr (.slice a27 L k27) 33).out (by simp [Value.oneCell']) (by unfold maxLen; omega) (by omega) (by simp; omega) ?_); intro vn' w3 hown3 hgrow3 hj1 hj2; clear hj1 hj2; obtain ⟨an', kn', en'⟩ := row_shape hown3; subst en'; have ho3 := (out_grown HR.out.O.out HR.out.O.nx hgrow3); have o3 := (ho3.cell (i := 1) (by omega)); have y3 := (ho3.frozen 1); have l3 := ho3.lt; simp only [outF, if_true, if_false, show (1 : Nat) ≠ 0 by omega, ite_true, ite_false] at o3; clear ho3 o1)
                            have hO2 := HR.out.close hgrow3 hown3
                            clear HR hgrow3 hown3 o3 y3 l3
                            generalize w3.setCell ⟨U.heap.size, 1, none⟩ (.slice an' ((nubN (lgA L step ac S) i').length + 1) kn') = w5 at *
                            have hVU := HU.out.trans (hO2.bl.mono HU.out.size)
                            have hown := own_below HS4.out.own hVU
                            obtain ⟨a5, k5, e5, h4, _, _⟩ := own_ints hown
                            cases e5
                            obtain ⟨b4, o4, e6, hb4, c4⟩ := h4 i' hlt7
                            subst e6
                            have hb4V := (HS4.out.own.lt b4 (by simp [Value.ownBlock])).2
                            have hrd := rd_at (HS4.out.bl.trans (hVU.mono HS4.out.sz)) rfl (Nat.le_trans HS4.out.sz hVU.size)
                            have r2 := hrd.c2
                            have o2 := hO2.out.cell (i := 2) (by omega)
                            simp only [outF, if_true, if_false, show (2 : Nat) ≠ 0 by omega, show (2 : Nat) ≠ 1 by omega, ite_true, ite_false] at o2
                            have y2 := hO2.out.frozen 2
                            have l2 := hO2.out.lt
                            have hin := HSi.out (nth S i') (by simp [nth, List.getD, hlt7])
                            have hbW : Below W.heap.size W w5 := (below_plW W L (.func (.func f) b c) (.func (.func g) b2 c2)).trans ((HS4.out.bl.trans (hVU.mono HS4.out.sz)).mono (by omega))
                            have HC := hid (HAc.out w5.drew hbW.drew _ hin.1 hin.2)
                            have hHU : W.heap.size ≤ U.heap.size := by have := HS4.out.sz; have := HU.out.size; omega
                            have hbU4 : b4 ≤ U.heap.size := by have := HU.out.size; omega
                            have HO2 := hid hO2
                            have hlA : Hid ((canAcc (nubN (lgA L step ac S) i')).length = (nubN (lgA L step ac S) i').length) := hid (by simp [canAcc])
                            have hlt4 : b4 < U.heap.size := by have := HU.out.size; omega
                            have hltW : W.heap.size < U.heap.size := by have := HS4.out.sz; have := HU.out.size; omega
                            have H58 : Hid (w5.drew.cell? ⟨U.heap.size, 2, none⟩ = some (.slice ab (canAcc (nubN (lgA L step ac S) i')).length kb) ∧ w5.drew.cell? ⟨W.heap.size, 2, none⟩ = some (.func (.func g) b2 c2) ∧ w5.drew.cell? ⟨b4, o4 + i', none⟩ = some (.int .i64 (nth S i'))) := hid ⟨o2, r2, c4⟩
                            clear hO2 hVU hown h4 hrd hbW hin hb4V y2 o2 r2 c4 l2
                            clear Hf HS HA HAc HSi HNX HG HRj HRG N4 HX HS4 HE HU r0 rl hN1 hk hj hlt hYV hpN hpm he d hl4 hb6 hbU hb' hlb hltO hb4
                            refine wp_region_but (fun w' => w'.cell? ⟨U.heap.size, 2, none⟩ = some (.slice ab (canAcc (nubN (lgA L step ac S) i')).length kb) ∧ w'.cell? ⟨W.heap.size, 2, none⟩ = some (.func (.func g) b2 c2) ∧ w'.cell? ⟨b4, o4 + i', none⟩ = some (.int .i64 (nth S i'))) 12 (by kernel_rfl) ?_
                            refine but_take (i := 0) (v := (.pointer (some ⟨U.heap.size, 2, none⟩))) rfl (by kernel_rfl) (by kernel_rfl) (by kernel_rfl) (by kernel_rfl) (fun _ _ _ h => h) (Or.inl ⟨by rfl, ?hy⟩) H58.out ?_
                            case hy => intro w hSw; (try dsimp only at hSw); go_simp
                            try simp only [Act.put, List.setIfInBounds_toArray, List.set_cons_zero, List.set_cons_succ]
                            refine but_take (i := 1) (v := (.slice ab (canAcc (nubN (lgA L step ac S) i')).length kb)) rfl (by kernel_rfl) (by kernel_rfl) (by kernel_rfl) (by kernel_rfl) (fun _ _ _ h => h) (Or.inl ⟨by rfl, ?hy⟩) H58.out ?_
                            case hy => intro w hSw; (try dsimp only at hSw); go_simp
                            try simp only [Act.put, List.setIfInBounds_toArray, List.set_cons_zero, List.set_cons_succ]
                            refine but_take (i := 2) (v := (.pointer (some ⟨W.heap.size, 2, none⟩))) rfl (by kernel_rfl) (by kernel_rfl) (by kernel_rfl) (by kernel_rfl) (fun _ _ _ h => h) (Or.inl ⟨by rfl, ?hy⟩) H58.out ?_
                            case hy => intro w hSw; (try dsimp only at hSw); go_simp
                            try simp only [Act.put, List.setIfInBounds_toArray, List.set_cons_zero, List.set_cons_succ]
                            refine but_take (i := 3) (v := (.func (.func g) b2 c2)) rfl (by kernel_rfl) (by kernel_rfl) (by kernel_rfl) (by kernel_rfl) (fun _ _ _ h => h) (Or.inl ⟨by rfl, ?hy⟩) H58.out ?_
                            case hy => intro w hSw; (try dsimp only at hSw); go_simp
                            try simp only [Act.put, List.setIfInBounds_toArray, List.set_cons_zero, List.set_cons_succ]
                            refine but_take (i := 4) (v := (.slice (some ⟨b4, o4, none⟩) S.length k4)) rfl (by kernel_rfl) (by kernel_rfl) (by kernel_rfl) (by kernel_rfl) (fun _ _ _ h => h) (Or.inl ⟨by rfl, ?hy⟩) H58.out ?_
                            case hy => intro w hSw; (try dsimp only at hSw); go_simp
                            try simp only [Act.put, List.setIfInBounds_toArray, List.set_cons_zero, List.set_cons_succ]
                            refine but_take (i := 5) (v := (.int .i64 i')) rfl (by kernel_rfl) (by kernel_rfl) (by kernel_rfl) (by kernel_rfl) (fun _ _ _ h => h) (Or.inl ⟨by rfl, ?hy⟩) H58.out ?_
                            case hy => intro w hSw; (try dsimp only at hSw); go_simp
                            try simp only [Act.put, List.setIfInBounds_toArray, List.set_cons_zero, List.set_cons_succ]
                            refine but_take (i := 6) (v := (.pointer (some ⟨b4, o4 + i', none⟩))) rfl (by kernel_rfl) (by kernel_rfl) (by kernel_rfl) (by kernel_rfl) (fun _ _ _ h => h) (Or.inl ⟨by rfl, ?hy⟩) H58.out ?_
                            case hy => intro w hSw; (try dsimp only at hSw); go_simp
                            try simp only [Act.put, List.setIfInBounds_toArray, List.set_cons_zero, List.set_cons_succ]
                            refine but_take (i := 7) (v := (.int .i64 (nth S i'))) rfl (by kernel_rfl) (by kernel_rfl) (by kernel_rfl) (by kernel_rfl) (fun _ _ _ h => h) (Or.inl ⟨by rfl, ?hy⟩) H58.out ?_
                            case hy => intro w hSw; (try dsimp only at hSw); go_simp
                            try simp only [Act.put, List.setIfInBounds_toArray, List.set_cons_zero, List.set_cons_succ]
                            refine but_one (i := 8) (by kernel_rfl) ?_
                            refine wpOp_one rfl (by rfl) (fun K hK => ?_)
                            go_simp
                            rw [Hg.out, Oper.upon_enter]
                            refine HC.out.mono ?_; rintro e w6 ⟨rfl, hb6⟩
                            have HO6 := hid (HO2.out.below (undrew hb6))
                            have l6 := HO6.out.out.lt
                            have K6 := keep3 (grown_of hb6) (fun k h => by cases h) HO2.out.out.lt hHU hbU4 H58.out
                            have H6 := hid K6
                            refine hK _ _ ⟨fun _ => K6, ?_⟩
                            clear hK K K6 H58 HC HO2
                            try simp only [Act.put, List.setIfInBounds_toArray, List.set_cons_zero, List.set_cons_succ]
                            refine but_one (i := 9) (by kernel_rfl) ?_
                            refine wpOp_one rfl (by rfl) (fun K hK => ?_)
                            go_simp
                            have H7 := hid (keep3 (row := none) (World.grownBy_alloc w6 (.cells #[.bool (ac (nth S i'))] 4) none) (fun k h => by cases h) l6 hHU hbU4 H6.out)
                            refine hK _ _ ⟨fun _ => H7.out, ?_⟩
                            clear hK K H6
                            try simp only [Act.put, List.setIfInBounds_toArray, List.set_cons_zero, List.set_cons_succ]
                            refine but_one (i := 10) (by kernel_rfl) ?_
                            refine wpOp_one rfl (by rfl) (fun K hK => ?_)
                            refine wp_append_own (by rfl) _ _ _ (by rfl) (U.heap.size + 1) 4 i4 (.bool false) 1 1 Try.underlying23 hi4 hw0 hw1 hw2 rfl (by omega) (.slice ab (canAcc (nubN (lgA L step ac S) i')).length kb) (canAcc (nubN (lgA L step ac S) i')).length ((canAcc (nubN (lgA L step ac S) i')).map Value.bool) (by rfl) (HO6.out.ac.alloc _) ⟨w6.heap.size, 0, none⟩ 1 1 [.bool (ac (nth S i'))] (by rfl) (by rfl) (World.news_of_block (cs := #[.bool (ac (nth S i'))]) (t := 4) (fr := (0, 0)) (heap_alloc_new w6 _)) (by simp [Value.oneCell']) (by have := hlA.out; unfold maxLen; omega) (by have := hlA.out; omega) (by simp; omega) ?_
                            intro v' w7 hown7 hgrow7
                            obtain ⟨ab', kb', eb'⟩ := row_shape hown7
                            subst eb'
                            have ho7 := out_grown HO6.out.out HO6.out.ac hgrow7
                            have o7 := ho7.cell (i := 2) (by omega)
                            have y7 := ho7.frozen 2
                            have l7 := ho7.lt
                            simp only [outF, if_true, if_false, show (2 : Nat) ≠ 0 by omega, show (2 : Nat) ≠ 1 by omega, ite_true, ite_false] at o7
                            have H8 := hid (keep3 hgrow7 (fun k h => (HO6.out.ac.lt k h).1) (by simp; omega) hHU hbU4 H7.out)
                            refine hK _ _ ⟨fun _ => H8.out, ?_⟩
                            clear hK K H7 ho7
                            try simp only [Act.put, List.setIfInBounds_toArray, List.set_cons_zero, List.set_cons_succ]
                            refine but_one (i := 11) (by kernel_rfl) ?_
                            refine wpOp_one rfl (by rfl) (fun K hK => ?_)
                            go_simp
                            refine hK _ _ ⟨fun _ => H8.out, ?_⟩
                            clear hK K H8
                            try simp only [Act.put, List.setIfInBounds_toArray, List.set_cons_zero, List.set_cons_succ]
                            refine but_one (i := 12) (by kernel_rfl) ?_
                            refine wpOp_one rfl (by rfl) (fun K hK => ?_)
                            go_simp
                            refine hK _ _ ⟨fun h => absurd rfl h, but_done (by kernel_rfl) ?_ _⟩
                            clear hK K
                            try simp only [Act.put, List.setIfInBounds_toArray, List.set_cons_zero, List.set_cons_succ]
                            have hO3 := HO6.out.accept (ac (nth S i')) hgrow7 hown7
                            have e1 : (nubN (lgA L step ac S) (i' + 1)).length = (nubN (lgA L step ac S) i').length + 1 := by rw [HNA.out.1]; simp
                            have e2 : canAcc (nubN (lgA L step ac S) (i' + 1)) = canAcc (nubN (lgA L step ac S) i') ++ [ac (nth S i')] := HNA.out.2
                            rw [← e1, ← e2] at hO3
                            have HO3 := hid hO3
                            clear hO3 e1 e2 HO6 hgrow7 hown7 hb6 o7 y7 l7 l6
                            go_wp2_with fail
                            go_roundw
                            case rel => exact ⟨i' + 1, _, _, _, by omega, by go_num, HO3.out⟩
                            case measure => simp [intOf]; omega
                    · obtain rfl : i' = S.length := by omega
                      have hF := forms_found (ac := ac) HE.out
                      have hM : MachAt wr (U.heap.size + 1) L (forms L step ac S) (.slice an (forms L step ac S).length kn) (.slice ab (canAcc (nubN (lgA L step ac S) S.length)).length kb) := PlO.mach hO
                      rw [show nubN (lgA L step ac S) S.length = forms L step ac S from rfl] at o1
                      have hle := forms_le (ac := ac) HE.out
                      have hbP := HS4.out.bl.trans ((HU.out.trans (hO.bl.mono HU.out.size)).mono HS4.out.sz)
                      have hr := res_at hbP rfl
                      have hsz := HS4.out.sz
                      have hsU := HU.out.size
                      have cc0 := hO.out.cell (i := 0) (by omega)
                      have cc2 := hO.out.cell (i := 2) (by omega)
                      simp only [outF, if_true, if_false, show (2 : Nat) ≠ 0 by omega, show (2 : Nat) ≠ 1 by omega, ite_true, ite_false] at cc0 cc2
                      have x0 := hr.cell (i := 0) (by omega)
                      have x1 := hr.cell (i := 1) (by omega)
                      have x2 := hr.cell (i := 2) (by omega)
                      simp only [outF, if_true, if_false, show (1 : Nat) ≠ 0 by omega, show (2 : Nat) ≠ 0 by omega, show (2 : Nat) ≠ 1 by omega, ite_true, ite_false] at x0 x1 x2
                      have y0 := hr.frozen 0
                      have y1 := hr.frozen 1
                      have y2 := hr.frozen 2
                      have hlr := hr.lt
                      have hWW := (below_plW W L (.func (.func f) b c) (.func (.func g) b2 c2)).trans (hbP.mono (by omega))
                      have HFF := hid hF
                      have HMM := hid hM
                      have HWW := hid hWW
                      have HRR := hid hr
                      clear hF hM hWW hbP hr hO HG N4 HNX
                      rw [show (canAcc (nubN (lgA L step ac S) S.length)).length = (forms L step ac S).length by simp [canAcc, forms]] at cc2 HMM
                      generalize forms L step ac S = F at *
                      by_cases h64 : F.length ≤ 64
                      · have d64 : decide ((64 : Int) < (F.length : Int)) = false := decide_eq_false (by omega)
                        have d64n : decide (64 < F.length) = false := decide_eq_false (by omega)
                        go_wp2_with fail
                        have hlt' : (⟨W.heap.size + 1, 0, none⟩ : Addr).block < U.heap.size + 1 := by show W.heap.size + 1 < U.heap.size + 1; omega
                        have s1 := ((HRR.out.set 0 (.int .i64 L)).set 1 (.slice an F.length kn)).set 2 (.slice ab F.length kb)
                        have q0 := s1.cell (i := 0) (by omega)
                        have q1 := s1.cell (i := 1) (by omega)
                        have q2 := s1.cell (i := 2) (by omega)
                        simp only [if_true, if_false, show (0 : Nat) ≠ 1 by omega, show (0 : Nat) ≠ 2 by omega, show (1 : Nat) ≠ 2 by omega, ite_true, ite_false] at q0 q1 q2
                        have hbz := ((HWW.out.setCell (p := ⟨W.heap.size + 1, 0, none⟩) (Nat.le_succ _) (.int .i64 L)).setCell (p := ⟨W.heap.size + 1, 1, none⟩) (Nat.le_succ _) (.slice an F.length kn)).setCell (p := ⟨W.heap.size + 1, 2, none⟩) (Nat.le_succ _) (.slice ab F.length kb)
                        refine bodyPost_ret (v := .tuple #[.agg #[(.int .i64 L), (.slice an F.length kn), (.slice ab F.length kb)], .int .i64 0]) (by simp [results, Try.results65, go_sem, q0, q1, q2]) rfl ⟨F, HFF.out, hbz, .inl ⟨h64, U.heap.size + 1, _, _, by omega, rfl, ((HMM.out.setCell (a := ⟨W.heap.size + 1, 0, none⟩) hlt' _).setCell (a := ⟨W.heap.size + 1, 1, none⟩) hlt' _).setCell (a := ⟨W.heap.size + 1, 2, none⟩) hlt' _⟩⟩
                      · have d64 : decide ((64 : Int) < (F.length : Int)) = true := decide_eq_true (by omega)
                        have d64n : decide (64 < F.length) = true := decide_eq_true (by omega)
                        go_wp2_with fail
                        have s1 := ((HRR.out.set 0 (.int .i64 0)).set 1 (.slice none 0 0)).set 2 (.slice none 0 0)
                        have q0 := s1.cell (i := 0) (by omega)
                        have q1 := s1.cell (i := 1) (by omega)
                        have q2 := s1.cell (i := 2) (by omega)
                        simp only [if_true, if_false, show (0 : Nat) ≠ 1 by omega, show (0 : Nat) ≠ 2 by omega, show (1 : Nat) ≠ 2 by omega, ite_true, ite_false] at q0 q1 q2
                        have hbz := ((HWW.out.setCell (p := ⟨W.heap.size + 1, 0, none⟩) (Nat.le_succ _) (.int .i64 0)).setCell (p := ⟨W.heap.size + 1, 1, none⟩) (Nat.le_succ _) (.slice none 0 0)).setCell (p := ⟨W.heap.size + 1, 2, none⟩) (Nat.le_succ _) (.slice none 0 0)
                        refine bodyPost_ret (v := .tuple #[.agg #[(.int .i64 0), (.slice none 0 0), (.slice none 0 0)], .int .i64 4]) (by simp [results, Try.results65, go_sem, q0, q1, q2]) rfl ⟨F, HFF.out, hbz, .inr ⟨by omega, rfl⟩⟩
                · have d : ((p : Int) == (q : Int)) = false := beq_eq_false_iff_ne.2 (by omega)
                  clear HE2
                  go_wp2_with fail
                  go_roundw
                  case rel => exact ⟨κ + 1, Y.heap.size + 1, rfl, N2.out, by omega, by rw [HP.out], hb2⟩
                  case measure => have := HQ.out; simp [intOf]; omega
end Go.Proofs.Ytmllbemjcfkmjaa
