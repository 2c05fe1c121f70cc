/- The document's walk gives the pairs of states in the order of finding, each with its first word. -/
import Derived.Test.YtmllbemjcfkmjaaWalkLaw
import Derived.Test.YtmllbemjcfkmjaaRounded
import Derived.Deep.DeepCutAuto
namespace Go.Proofs.Ytmllbemjcfkmjaa
open Go.RowKit Go.Maps
set_option linter.unusedSimpArgs false
set_option linter.unusedVariables false

theorem BoxAt.grown {H : Nat} {w w' : World} {x y z : Value} {row : Option Nat} (h : BoxAt H w x y z) (hg : w.grownBy w' row) (hne : row ≠ some H) : BoxAt H w' x y z :=
  ⟨hg.cell h.c0 (fun e => hne e.symm), hg.cell h.c1 (fun e => hne e.symm), hg.cell h.c2 (fun e => hne e.symm), Nat.lt_of_lt_of_le h.lt hg.size⟩
theorem BoxAt.setCell {H : Nat} {w : World} {x y z : Value} (h : BoxAt H w x y z) {b : Nat} (hne : b ≠ H) (i : Nat) (u : Value) : BoxAt H (w.setCell ⟨b, i, none⟩ u) x y z := by
  have hb := Below.heap_setCell w ⟨b, i, none⟩ u H (fun e => hne e.symm)
  refine ⟨?_, ?_, ?_, ?_⟩
  · rw [World.cell?_of_block (w := w) hb]; exact h.c0
  · rw [World.cell?_of_block (w := w) hb]; exact h.c1
  · rw [World.cell?_of_block (w := w) hb]; exact h.c2
  · have := h.lt; simpa using this
theorem ext_at {L : Nat} {step : Int → Nat → Int} {i : Nat} (c : Nat) (hi : i < (rawW L step i).length) : (extW L step i (rawW L step i) c).getD i [] = (rawW L step i).getD i [] := by
  have := pre_get' (extW_pre (L := L) (step := step) i (rawW L step i) c) hi
  simp [List.getD, this]
theorem wp_region_but_d {P : Program} {ops : Array Oper} {Q : Exit → Act → World → Prop} {id : Nat} {a : Act} {w : World} (S : World → Prop) (k : Nat) (hm : P.follows .mixedOrders = true)
    (h : ∀ Z, Z = w.drew → anyBut P .any ops Q S k ops.size (Array.replicate ops.size false) a Z) : (Code.region id ops true).wp P Q a w :=
  wp_region_but S k hm (h _ rfl)
theorem info108 : (Try.prog.info? 108).map (fun i => (i.zero, i.size, i.bytes)) = some (some (.agg #[.int .i64 0, .int .i64 0, .slice none 0 0]), 3, 40) := by kernel_rfl
theorem news_three (w : World) (x y z : Value) (e : TypeId) : Hid (∀ t u, ([x, y, z])[t]? = some u → (w.alloc (.cells #[x, y, z] e)).cell? ((⟨w.heap.size, 0, none⟩ : Addr).add t) = some u) := by
  have := World.news_of_block (cs := #[x, y, z]) (t := e) (fr := (0, 0)) (heap_alloc_new w (.cells #[x, y, z] e))
  exact hid (by simpa using this)
/-- Where one more letter leads. -/
structure NextP (m k : Mac) (s : Int) (c : Nat) (sn tn : Nat) (d : Int) : Prop where
  q : s / k.nx.length = sn
  r : s % k.nx.length = tn
  lm : sn < m.nx.length
  lk : tn < k.nx.length
  rm : ((rowOf m sn).length : Int) = m.L
  rk : ((rowOf k tn).length : Int) = m.L
  dq : d / k.nx.length = nth (rowOf m sn) c
  dr : d % k.nx.length = nth (rowOf k tn) c
  wm : (Lit.int .i64 (nth (rowOf m sn) c)).wf = true
  wk : (Lit.int .i64 (nth (rowOf k tn) c)).wf = true
theorem next_pair {m k : Mac} (hm : MacOK m) (hk : MacOK k) (hL : m.L = k.L) {s : Int} (h0 : 0 ≤ s) (h1 : s < m.nx.length * k.nx.length) (c : Nat) (hc : c < m.L.toNat) : ∃ sn tn, NextP m k s c sn tn (jnS m k s c) := by
  have hn := hk.n1
  have hn' := hm.n1
  have h64 := hk.n64
  have h64' := hm.n64
  have hm1 := hm.l1
  have hK : (0 : Int) < k.nx.length := by omega
  have e1 : s / k.nx.length < m.nx.length := Int.ediv_lt_of_lt_mul hK h1
  have e0 : 0 ≤ s / k.nx.length := Int.ediv_nonneg h0 (by omega)
  have f0 := Int.emod_nonneg s (show (k.nx.length : Int) ≠ 0 by omega)
  have f1 := Int.emod_lt_of_pos s hK
  obtain ⟨sn, hsn⟩ : ∃ sn : Nat, s / k.nx.length = (sn : Int) := ⟨(s / k.nx.length).toNat, by omega⟩
  obtain ⟨tn, htn⟩ : ∃ tn : Nat, s % k.nx.length = (tn : Int) := ⟨(s % k.nx.length).toNat, by omega⟩
  have g1 := step_in hm (s := (sn : Int)) (a := (c : Int)) (by omega) (by omega) (by omega) (by omega)
  have g2 := step_in hk (s := (tn : Int)) (a := (c : Int)) (by omega) (by omega) (by omega) (by omega)
  have v1 : stepM m (sn : Int) c = nth (rowOf m sn) c := by simp [stepM]
  have v2 : stepM k (tn : Int) c = nth (rowOf k tn) c := by simp [stepM]
  rw [Int.toNat_natCast, v1] at g1
  rw [Int.toNat_natCast, v2] at g2
  have ed : jnS m k s c = nth (rowOf m sn) c * k.nx.length + nth (rowOf k tn) c := by unfold jnS; rw [hsn, htn, v1, v2]
  refine ⟨sn, tn, hsn, htn, by omega, by omega, ?_, ?_, ?_, ?_, ?_, ?_⟩
  · exact hm.len sn (by omega)
  · rw [hL]; exact hk.len tn (by omega)
  · rw [ed, Int.add_comm, Int.add_mul_ediv_right _ _ (by omega), Int.ediv_eq_zero_of_lt g2.1 g2.2]
    omega
  · rw [ed, Int.add_comm, Int.add_mul_emod_self_right]
    exact Int.emod_eq_of_lt g2.1 g2.2
  · simp only [Lit.wf, Bool.and_eq_true, decide_eq_true_eq]; exact ⟨by show (-9223372036854775808 : Int) ≤ _; omega, by show _ ≤ (9223372036854775807 : Int); omega⟩
  · simp only [Lit.wf, Bool.and_eq_true, decide_eq_true_eq]; exact ⟨by show (-9223372036854775808 : Int) ≤ _; omega, by show _ ≤ (9223372036854775807 : Int); omega⟩
def rowY (x y : Int) (v : Value) (i : Nat) : Value := if i = 0 then .int .i64 x else if i = 1 then .int .i64 y else v
theorem rowY_at (x y : Int) (v : Value) : ∀ i, i < (#[Value.int .i64 x, .int .i64 y, v] : Array Value).size → (#[Value.int .i64 x, .int .i64 y, v] : Array Value)[i]? = some (rowY x y v i) := by
  intro i hi
  have : i < 3 := hi
  match i, this with
  | 0, _ => rfl
  | 1, _ => rfl
  | 2, _ => rfl
theorem zero4 (w : World) : (zeroValue 4).run Try.prog w = .ok (.bool false) w := by kernel_rfl
theorem word_len {L : Nat} {step : Int → Nat → Int} {lo hi : Int} (h : AutoOK L step lo hi) (i : Nat) (hi : i < (raw L step i).length) : ((rawW L step i).getD i []).length ≤ 5100 := by
  have h1 := raw_len h i
  have hl : i < (rawW L step i).length := by rw [rawW_len]; exact hi
  have := (rawW_word (step := step) h.l6 i ((rawW L step i).getD i []) (by simp [List.getD, hl])).1
  omega
theorem grow_two {w2 w3 w4 : World} {o : Obj} {v3 : Value} (hb : Below w2.heap.size w2 w3) (hat : v3.ownBlock = Value.ownBlock (.slice (some ⟨w2.heap.size, 0, none⟩) 0 0) ∨ v3.ownBlock = some (w2.alloc (.cells #[] 3)).heap.size) (hg : (w3.alloc o).grownBy w4 v3.ownBlock) : Below w2.heap.size w2 w4 := by
  refine (hb.alloc hb.size o).grown hg (by have := hb.size; simp; omega) fun g hg' => ?_
  rcases hat with h | h
  · rw [h] at hg'
    have e : some w2.heap.size = some g := hg'
    cases e; exact Nat.le_refl _
  · rw [h] at hg'
    cases hg'; simp
def WalkPost (W : World) (m k : Mac) (e : Ending) (w' : World) : Prop :=
  ∃ i v R V mb, ¬ i < (raw m.L.toNat (jnS m k) i).length ∧ i ≤ (raw m.L.toNat (jnS m k) i).length ∧ WkI V mb k.nx.length (raw m.L.toNat (jnS m k) i) (raw m.L.toNat (jnS m k) i) (rawW m.L.toNat (jnS m k) i) v R w' ∧ e = .returned v ∧ W.heap.size ≤ V.heap.size ∧ Below W.heap.size W w'

set_option maxRecDepth 100000 in
set_option maxHeartbeats 4000000 in
theorem walk_any (m k : Mac) (a a2 : Option Addr) (cap cap2 : Nat) (b b2 : Option Addr) (dap dap2 : Nat) (W : World) (hM : MacAt W a cap a2 cap2 m) (hK : MacAt W b dap b2 dap2 k) (hm : MacOK m) (hk : MacOK k) (hL : m.L = k.L) :
    Calls Try.prog 98 #[.agg #[.int .i64 m.L, .slice a m.nx.length cap, .slice a2 m.ac.length cap2], .agg #[.int .i64 k.L, .slice b k.nx.length dap, .slice b2 k.ac.length dap2]] W (WalkPost W m k) := by
  have hbA := below_alloc W (.cells #[.int .i64 m.L, .slice a m.nx.length cap, .slice a2 m.ac.length cap2] 25)
  have hbB := below_alloc (W.alloc (.cells #[.int .i64 m.L, .slice a m.nx.length cap, .slice a2 m.ac.length cap2] 25)) (.cells #[.int .i64 k.L, .slice b k.nx.length dap, .slice b2 k.ac.length dap2] 25)
  have hXb := (box_new W (.int .i64 m.L) (.slice a m.nx.length cap) (.slice a2 m.ac.length cap2) 25).below hbB
  have hYb := box_new (W.alloc (.cells #[.int .i64 m.L, .slice a m.nx.length cap, .slice a2 m.ac.length cap2] 25)) (.int .i64 k.L) (.slice b k.nx.length dap) (.slice b2 k.ac.length dap2) 25
  have hsA : (W.alloc (.cells #[.int .i64 m.L, .slice a m.nx.length cap, .slice a2 m.ac.length cap2] 25)).heap.size = W.heap.size + 1 := by simp
  have hVs : ((W.alloc (.cells #[.int .i64 m.L, .slice a m.nx.length cap, .slice a2 m.ac.length cap2] 25)).alloc (.cells #[.int .i64 k.L, .slice b k.nx.length dap, .slice b2 k.ac.length dap2] 25)).heap.size = W.heap.size + 1 + 1 := by simp
  rw [hsA] at hYb
  have hb0 := hbA.trans (hbB.mono (by rw [hsA]; omega))
  have HA := hid (jn_auto hm hk hL)
  have hm1 := hm.l1
  have hm6 := hm.l6
  have hn1 := hk.n1
  have hn64 := hk.n64
  have hn64' := hm.n64
  have hKp : (0 : Int) < (k.nx.length : Int) := by omega
  have HKp := hid hKp
  have Hm := hid hm
  have Hk := hid hk
  have HL := hid hL
  have HX := hid hXb
  have HY := hid hYb
  have HM := hid (hM.below hb0)
  have HK := hid (hK.below hb0)
  have Hb0 := hid hb0
  clear hbA hbB hXb hYb hsA hb0 hM hK hm hk hL hKp
  obtain ⟨i0, hi0, hz0, hz1, hz2⟩ := info_parts info3
  obtain ⟨i8, hi8, hy0, hy1, hy2⟩ := info_parts info108
  obtain ⟨l0, hl0⟩ := key102 (x := 0) (y := 0) (by decide) (by decide)
  obtain ⟨w4, hrun, hM4, hg4, hz4⟩ := (mapOf_new Try.prog 102 ((W.alloc (.cells #[.int .i64 m.L, .slice a m.nx.length cap, .slice a2 m.ac.length cap2] 25)).alloc (.cells #[.int .i64 k.L, .slice b k.nx.length dap, .slice b2 k.ac.length dap2] 25))).insert law102 Try.underlying103 (x := .agg #[.int .i64 0, .int .i64 0]) (v := .bool true) hl0 rfl
  have hz4' : w4.heap.size = ((W.alloc (.cells #[.int .i64 m.L, .slice a m.nx.length cap, .slice a2 m.ac.length cap2] 25)).alloc (.cells #[.int .i64 k.L, .slice b k.nx.length dap, .slice b2 k.ac.length dap2] 25)).heap.size + 1 := by rw [hz4]; simp
  have HI := hid (WkI.start (V := ((W.alloc (.cells #[.int .i64 m.L, .slice a m.nx.length cap, .slice a2 m.ac.length cap2] 25)).alloc (.cells #[.int .i64 k.L, .slice b k.nx.length dap, .slice b2 k.ac.length dap2] 25))) (K := k.nx.length) HKp.out (hM4.congr (fun y => by
    rw [show ([0] : List Int) = [] ++ [0] from rfl, ← gS_new (S := []) (c := 0) y]
    have e : pairV (k.nx.length) 0 = .agg #[.int .i64 0, .int .i64 0] := by simp [pairV]
    rw [e]
    have e0 : gS (k.nx.length) [] y = none := by unfold gS; rw [if_neg (by rintro ⟨c, hc, _⟩; cases hc)]
    rw [e0])) hg4 hz4')
  have HVs := hid hVs
  rw [hVs] at hrun hz4'
  clear hM4 hg4 hz4 hl0 hVs
  have hmm := @run_makeMap Try.prog
  go_enter Try.func98, Try.ntmps98
  go_wp2_with fail
  clear hmm hrun
  rw [HVs.out] at HI
  have HI2 := hid HI.out
  clear HI hz4'
  generalize ((W.alloc (.cells #[.int .i64 m.L, .slice a m.nx.length cap, .slice a2 m.ac.length cap2] 25)).alloc (.cells #[.int .i64 k.L, .slice b k.nx.length dap, .slice b2 k.ac.length dap2] 25)) = V at *
  generalize w4.alloc (.cells #[.int .i64 0, .int .i64 0, .slice none 0 0] 108) = w5 at *
  go_loopw [6, 7, 8, 9, 10] (fun v6 v7 v8 v9 v10 w' => ∃ (i : Nat) (R : Nat → Value), v7 = .int .i64 i ∧ i ≤ (raw m.L.toNat (jnS m k) i).length ∧ WkI V V.heap.size k.nx.length (raw m.L.toNat (jnS m k) i) (raw m.L.toNat (jnS m k) i) (rawW m.L.toNat (jnS m k) i) v6 R w') (fun _ v7 _ _ _ _ => 5100 - (intOf v7).toNat)
  case atStart => exact ⟨0, _, rfl, by have := raw_pos (L := m.L.toNat) (step := jnS m k) 0; omega, by rw [← HVs.out]; have h2 := HI2.out; rw [← HVs.out] at h2; exact h2⟩
  case round =>
    clear HI2
    obtain ⟨i, R, rfl, hi, hI⟩ := hrel
    have hlS := raw_len HA.out i
    have Hi := hid hi
    by_cases hlt : i < (raw m.L.toNat (jnS m k) i).length
    · obtain ⟨bo, co, rfl, hbo, hVbo, c0, c1, c2⟩ := hI.cells hlt
      have hR := hI.wd i hlt
      obtain ⟨wd, hwd⟩ : ∃ wd, (rawW m.L.toNat (jnS m k) i).getD i [] = wd := ⟨_, rfl⟩
      have Hwd := hid hwd
      rw [hwd] at hR
      obtain ⟨ar, kr, er⟩ := row_shape hR
      rw [er] at c2
      have hin := raw_in HA.out i ((raw m.L.toNat (jnS m k) i).getD i 0) (by simp [List.getD, hlt])
      obtain ⟨sn, tn, hn⟩ := next_pair Hm.out Hk.out HL.out hin.1 hin.2 0 (by omega)
      rw [hn.q] at c0
      rw [hn.r] at c1
      have HN := hid (fun c hc => next_pair Hm.out Hk.out HL.out hin.1 hin.2 c hc)
      have Hq := hid hn.q
      have Hr := hid hn.r
      have Hlt := hid hlt
      have Her := hid er
      have hBox := box_new wr (.int .i64 (sn : Nat)) (.int .i64 (tn : Nat)) (.slice ar wd.length kr) 108
      have hI1 := hI.below (below_alloc wr (.cells #[.int .i64 (sn : Nat), .int .i64 (tn : Nat), .slice ar wd.length kr] 108))
      have hV1 := hI.bl.size
      have hmb := hI.map.lt
      have hvo : Value.ownBlock (.slice (some ⟨bo, 0, none⟩) (raw m.L.toNat (jnS m k) i).length co) ≠ some wr.heap.size := by intro e; have e' : some bo = some wr.heap.size := e; cases e'; omega
      have HB1 := hid hBox
      have HI1 := hid hI1
      have i2 : (i : Int) < ((raw m.L.toNat (jnS m k) i).length : Int) := by omega
      have x0 := (HX.out.below (hI.bl.mono (Nat.le_refl _))).c0
      have xl := (HX.out.below (hI.bl.mono (Nat.le_refl _))).lt
      clear hwd hin hn er hR hI hBox hI1 hi hlt hlS
      go_wp2_with fail
      clear c0 c1 c2 x0 xl i2 hbo hVbo
      generalize hZ : wr.heap.size = H at *
      generalize wr.alloc (.cells #[.int .i64 (sn : Nat), .int .i64 (tn : Nat), .slice ar wd.length kr] 108) = w5 at *
      go_loopw [6, 9, 10] (fun v6 v9 v10 w' => ∃ (c : Nat) (R' : Nat → Value), v9 = .int .i64 c ∧ c ≤ m.L.toNat ∧ R' i = .slice ar wd.length kr ∧ WkI V V.heap.size k.nx.length (part m.L.toNat (jnS m k) i c) (part m.L.toNat (jnS m k) i c) (extW m.L.toNat (jnS m k) i (rawW m.L.toNat (jnS m k) i) c) v6 R' w' ∧ BoxAt H w' (.int .i64 (sn : Nat)) (.int .i64 (tn : Nat)) (.slice ar wd.length kr) ∧ v6.ownBlock ≠ some H) (fun _ v9 _ _ => m.L.toNat - (intOf v9).toNat)
      case atStart => exact ⟨0, R, rfl, by omega, Her.out, HI1.out, HB1.out, hvo⟩
      case round =>
        clear HI1 HB1 hvo
        obtain ⟨c, R', rfl, hc, hRi, hI, hB, hvo⟩ := hrel
        have hX := HX.out.below hI.bl
        have hY := HY.out.below hI.bl
        have x0 := hX.c0
        have xl := hX.lt
        by_cases hlc : c < m.L.toNat
        · obtain ⟨sn', tn', hn⟩ := HN.out c hlc
          have e1 := hn.q
          have e2 := hn.r
          rw [Hq.out] at e1
          rw [Hr.out] at e2
          obtain rfl : sn = sn' := by omega
          obtain rfl : tn = tn' := by omega
          have hMm := HM.out.below hI.bl
          have hMk := HK.out.below hI.bl
          obtain ⟨b1, o1, rfl, hb1, ra, rc, q0, r1, r2, hIA⟩ := hMm.nx sn hn.lm
          obtain ⟨b3, o3, rfl, hb3, rb, rd, q3, r3, r4, hIB⟩ := hMk.nx tn hn.lk
          obtain ⟨br, or, rfl, hbr, cr⟩ := hIA c (by have := hn.rm; omega)
          obtain ⟨bs, os, rfl, hbs, cs⟩ := hIB c (by have := hn.rk; omega)
          have HP := hid (part_old m.L.toNat (jnS m k) i c)
          have HF := hid (part_fresh m.L.toNat (jnS m k) i c)
          have HE : Hid (extW m.L.toNat (jnS m k) i (rawW m.L.toNat (jnS m k) i) (c + 1) = if jnS m k ((raw m.L.toNat (jnS m k) i).getD i 0) c ∈ (part m.L.toNat (jnS m k) i c) then (extW m.L.toNat (jnS m k) i (rawW m.L.toNat (jnS m k) i) c) else (extW m.L.toNat (jnS m k) i (rawW m.L.toNat (jnS m k) i) c) ++ [(rawW m.L.toNat (jnS m k) i).getD i [] ++ [(c : Int)]]) := hid (by rw [extW])
          have hdq := hn.dq
          have hdr := hn.dr
          have hwm := hn.wm
          have hwk := hn.wk
          have i3 : (0 : Int) ≤ (c : Int) := by omega
          have i4 : (c : Int) < ((rowOf m sn).length : Int) := by have := hn.rm; omega
          have i5 : (c : Int) < ((rowOf k tn).length : Int) := by have := hn.rk; omega
          have i6 : (0 : Int) ≤ (sn : Int) := by omega
          have i7 : (sn : Int) < (m.nx.length : Int) := by have := hn.lm; omega
          have i8' : (0 : Int) ≤ (tn : Int) := by omega
          have i9 : (tn : Int) < (k.nx.length : Int) := by have := hn.lk; omega
          have i10 : (c : Int) < m.L := by omega
          generalize hDd : jnS m k ((raw m.L.toNat (jnS m k) i).getD i 0) c = d at *
          generalize nth (rowOf m sn) c = tv at *
          generalize nth (rowOf k tn) c = uv at *
          generalize (rowOf m sn).length = lm at *
          generalize (rowOf k tn).length = lk at *
          have H20 : Hid (wr.drew.cell? ⟨W.heap.size, 1, none⟩ = some (.slice (some ⟨b1, o1, none⟩) m.nx.length cap) ∧ wr.drew.cell? ⟨H, 0, none⟩ = some (.int .i64 (sn : Nat)) ∧ wr.drew.cell? ⟨b1, o1 + sn, none⟩ = some (.slice (some ⟨br, or, none⟩) lm rc) ∧ wr.drew.cell? ⟨br, or + c, none⟩ = some (.int .i64 tv) ∧ wr.drew.cell? ⟨W.heap.size + 1, 1, none⟩ = some (.slice (some ⟨b3, o3, none⟩) k.nx.length dap) ∧ wr.drew.cell? ⟨H, 1, none⟩ = some (.int .i64 (tn : Nat)) ∧ wr.drew.cell? ⟨b3, o3 + tn, none⟩ = some (.slice (some ⟨bs, os, none⟩) lk rd) ∧ wr.drew.cell? ⟨bs, os + c, none⟩ = some (.int .i64 uv)) := hid ⟨hX.c1, hB.c0, q0, cr, hY.c1, hB.c1, q3, cs⟩
          have hd : Below wr.heap.size wr wr.drew := (Below.refl _ _).drew
          have HI6 := hid (hI.below hd)
          have HB6 := hid (hB.below hd)
          have L6 : Hid (W.heap.size < wr.drew.heap.size ∧ W.heap.size + 1 < wr.drew.heap.size ∧ H < wr.drew.heap.size ∧ b1 < wr.drew.heap.size ∧ b3 < wr.drew.heap.size ∧ br < wr.drew.heap.size ∧ bs < wr.drew.heap.size) := hid ⟨hX.lt, hY.lt, hB.lt, hb1, hb3, hbr, hbs⟩
          have Hvo := hid hvo
          have HRi := hid hRi
          have Hlc := hid hlc
          clear e1 e2 hDd hn hX hY hMm hMk q0 q3 r1 r2 r3 r4 cr cs hB hI hd hb1 hb3 hbr hbs hc hvo hRi hlc
          go_wp2_with fail
          clear x0 xl
          refine wp_region_but_d (fun w' => w'.cell? ⟨W.heap.size, 1, none⟩ = some (.slice (some ⟨b1, o1, none⟩) m.nx.length cap) ∧ w'.cell? ⟨H, 0, none⟩ = some (.int .i64 (sn : Nat)) ∧ w'.cell? ⟨b1, o1 + sn, none⟩ = some (.slice (some ⟨br, or, none⟩) lm rc) ∧ w'.cell? ⟨br, or + c, none⟩ = some (.int .i64 tv) ∧ w'.cell? ⟨W.heap.size + 1, 1, none⟩ = some (.slice (some ⟨b3, o3, none⟩) k.nx.length dap) ∧ w'.cell? ⟨H, 1, none⟩ = some (.int .i64 (tn : Nat)) ∧ w'.cell? ⟨b3, o3 + tn, none⟩ = some (.slice (some ⟨bs, os, none⟩) lk rd) ∧ w'.cell? ⟨bs, os + c, none⟩ = some (.int .i64 uv)) 20 (by kernel_rfl) ?_
          intro Z0 hZ0
          rw [← hZ0] at H20 HI6 HB6 L6
          clear hZ0
          generalize wr = wold at *
          refine but_take (i := 0) (v := (.pointer (some ⟨W.heap.size, 1, none⟩))) rfl (by kernel_rfl) (by kernel_rfl) (by kernel_rfl) (by kernel_rfl) (fun _ _ _ h => h) (Or.inl ⟨by rfl, ?hy⟩) H20.out ?_
          case hy => intro w hSw; (try dsimp only at hSw); go_simp
          try simp only [Act.put, List.setIfInBounds_toArray, List.set_cons_zero, List.set_cons_succ]
          refine but_take (i := 1) (v := (.slice (some ⟨b1, o1, none⟩) m.nx.length cap)) rfl (by kernel_rfl) (by kernel_rfl) (by kernel_rfl) (by kernel_rfl) (fun _ _ _ h => h) (Or.inl ⟨by rfl, ?hy⟩) H20.out ?_
          case hy => intro w hSw; (try dsimp only at hSw); go_simp
          try simp only [Act.put, List.setIfInBounds_toArray, List.set_cons_zero, List.set_cons_succ]
          refine but_take (i := 2) (v := (.pointer (some ⟨H, 0, none⟩))) rfl (by kernel_rfl) (by kernel_rfl) (by kernel_rfl) (by kernel_rfl) (fun _ _ _ h => h) (Or.inl ⟨by rfl, ?hy⟩) H20.out ?_
          case hy => intro w hSw; (try dsimp only at hSw); go_simp
          try simp only [Act.put, List.setIfInBounds_toArray, List.set_cons_zero, List.set_cons_succ]
          refine but_take (i := 3) (v := (.int .i64 (sn : Nat))) rfl (by kernel_rfl) (by kernel_rfl) (by kernel_rfl) (by kernel_rfl) (fun _ _ _ h => h) (Or.inl ⟨by rfl, ?hy⟩) H20.out ?_
          case hy => intro w hSw; (try dsimp only at hSw); go_simp
          try simp only [Act.put, List.setIfInBounds_toArray, List.set_cons_zero, List.set_cons_succ]
          refine but_take (i := 4) (v := (.pointer (some ⟨b1, o1 + sn, none⟩))) rfl (by kernel_rfl) (by kernel_rfl) (by kernel_rfl) (by kernel_rfl) (fun _ _ _ h => h) (Or.inl ⟨by rfl, ?hy⟩) H20.out ?_
          case hy => intro w hSw; (try dsimp only at hSw); go_simp
          try simp only [Act.put, List.setIfInBounds_toArray, List.set_cons_zero, List.set_cons_succ]
          refine but_take (i := 5) (v := (.slice (some ⟨br, or, none⟩) lm rc)) rfl (by kernel_rfl) (by kernel_rfl) (by kernel_rfl) (by kernel_rfl) (fun _ _ _ h => h) (Or.inl ⟨by rfl, ?hy⟩) H20.out ?_
          case hy => intro w hSw; (try dsimp only at hSw); go_simp
          try simp only [Act.put, List.setIfInBounds_toArray, List.set_cons_zero, List.set_cons_succ]
          refine but_take (i := 6) (v := (.int .i64 (c : Nat))) rfl (by kernel_rfl) (by kernel_rfl) (by kernel_rfl) (by kernel_rfl) (fun _ _ _ h => h) (Or.inl ⟨by rfl, ?hy⟩) H20.out ?_
          case hy => intro w hSw; (try dsimp only at hSw); go_simp
          try simp only [Act.put, List.setIfInBounds_toArray, List.set_cons_zero, List.set_cons_succ]
          refine but_take (i := 7) (v := (.pointer (some ⟨br, or + c, none⟩))) rfl (by kernel_rfl) (by kernel_rfl) (by kernel_rfl) (by kernel_rfl) (fun _ _ _ h => h) (Or.inl ⟨by rfl, ?hy⟩) H20.out ?_
          case hy => intro w hSw; (try dsimp only at hSw); go_simp
          try simp only [Act.put, List.setIfInBounds_toArray, List.set_cons_zero, List.set_cons_succ]
          refine but_take (i := 8) (v := (.int .i64 tv)) rfl (by kernel_rfl) (by kernel_rfl) (by kernel_rfl) (by kernel_rfl) (fun _ _ _ h => h) (Or.inl ⟨by rfl, ?hy⟩) H20.out ?_
          case hy => intro w hSw; (try dsimp only at hSw); go_simp
          try simp only [Act.put, List.setIfInBounds_toArray, List.set_cons_zero, List.set_cons_succ]
          refine but_take (i := 9) (v := (.pointer (some ⟨W.heap.size + 1, 1, none⟩))) rfl (by kernel_rfl) (by kernel_rfl) (by kernel_rfl) (by kernel_rfl) (fun _ _ _ h => h) (Or.inl ⟨by rfl, ?hy⟩) H20.out ?_
          case hy => intro w hSw; (try dsimp only at hSw); go_simp
          try simp only [Act.put, List.setIfInBounds_toArray, List.set_cons_zero, List.set_cons_succ]
          refine but_take (i := 10) (v := (.slice (some ⟨b3, o3, none⟩) k.nx.length dap)) rfl (by kernel_rfl) (by kernel_rfl) (by kernel_rfl) (by kernel_rfl) (fun _ _ _ h => h) (Or.inl ⟨by rfl, ?hy⟩) H20.out ?_
          case hy => intro w hSw; (try dsimp only at hSw); go_simp
          try simp only [Act.put, List.setIfInBounds_toArray, List.set_cons_zero, List.set_cons_succ]
          refine but_take (i := 11) (v := (.pointer (some ⟨H, 1, none⟩))) rfl (by kernel_rfl) (by kernel_rfl) (by kernel_rfl) (by kernel_rfl) (fun _ _ _ h => h) (Or.inl ⟨by rfl, ?hy⟩) H20.out ?_
          case hy => intro w hSw; (try dsimp only at hSw); go_simp
          try simp only [Act.put, List.setIfInBounds_toArray, List.set_cons_zero, List.set_cons_succ]
          refine but_take (i := 12) (v := (.int .i64 (tn : Nat))) rfl (by kernel_rfl) (by kernel_rfl) (by kernel_rfl) (by kernel_rfl) (fun _ _ _ h => h) (Or.inl ⟨by rfl, ?hy⟩) H20.out ?_
          case hy => intro w hSw; (try dsimp only at hSw); go_simp
          try simp only [Act.put, List.setIfInBounds_toArray, List.set_cons_zero, List.set_cons_succ]
          refine but_take (i := 13) (v := (.pointer (some ⟨b3, o3 + tn, none⟩))) rfl (by kernel_rfl) (by kernel_rfl) (by kernel_rfl) (by kernel_rfl) (fun _ _ _ h => h) (Or.inl ⟨by rfl, ?hy⟩) H20.out ?_
          case hy => intro w hSw; (try dsimp only at hSw); go_simp
          try simp only [Act.put, List.setIfInBounds_toArray, List.set_cons_zero, List.set_cons_succ]
          refine but_take (i := 14) (v := (.slice (some ⟨bs, os, none⟩) lk rd)) rfl (by kernel_rfl) (by kernel_rfl) (by kernel_rfl) (by kernel_rfl) (fun _ _ _ h => h) (Or.inl ⟨by rfl, ?hy⟩) H20.out ?_
          case hy => intro w hSw; (try dsimp only at hSw); go_simp
          try simp only [Act.put, List.setIfInBounds_toArray, List.set_cons_zero, List.set_cons_succ]
          refine but_take (i := 15) (v := (.int .i64 (c : Nat))) rfl (by kernel_rfl) (by kernel_rfl) (by kernel_rfl) (by kernel_rfl) (fun _ _ _ h => h) (Or.inl ⟨by rfl, ?hy⟩) H20.out ?_
          case hy => intro w hSw; (try dsimp only at hSw); go_simp
          try simp only [Act.put, List.setIfInBounds_toArray, List.set_cons_zero, List.set_cons_succ]
          refine but_take (i := 16) (v := (.pointer (some ⟨bs, os + c, none⟩))) rfl (by kernel_rfl) (by kernel_rfl) (by kernel_rfl) (by kernel_rfl) (fun _ _ _ h => h) (Or.inl ⟨by rfl, ?hy⟩) H20.out ?_
          case hy => intro w hSw; (try dsimp only at hSw); go_simp
          try simp only [Act.put, List.setIfInBounds_toArray, List.set_cons_zero, List.set_cons_succ]
          refine but_take (i := 17) (v := (.int .i64 uv)) rfl (by kernel_rfl) (by kernel_rfl) (by kernel_rfl) (by kernel_rfl) (fun _ _ _ h => h) (Or.inl ⟨by rfl, ?hy⟩) H20.out ?_
          case hy => intro w hSw; (try dsimp only at hSw); go_simp
          try simp only [Act.put, List.setIfInBounds_toArray, List.set_cons_zero, List.set_cons_succ]
          refine but_take (i := 18) (v := (.agg #[.int .i64 tv, .int .i64 uv, .slice none 0 0])) rfl (by kernel_rfl) (by kernel_rfl) (by kernel_rfl) (by kernel_rfl) (fun _ _ _ h => h) (Or.inl ⟨by rfl, ?hy⟩) H20.out ?_
          case hy => intro w hSw; (try dsimp only at hSw); go_simp
          try simp only [Act.put, List.setIfInBounds_toArray, List.set_cons_zero, List.set_cons_succ]
          have H21 : Hid ((Z0.alloc (.cells #[.int .i64 0, .int .i64 0, .slice none 0 0] 108)).cell? ⟨W.heap.size, 1, none⟩ = some (.slice (some ⟨b1, o1, none⟩) m.nx.length cap) ∧ (Z0.alloc (.cells #[.int .i64 0, .int .i64 0, .slice none 0 0] 108)).cell? ⟨H, 0, none⟩ = some (.int .i64 (sn : Nat)) ∧ (Z0.alloc (.cells #[.int .i64 0, .int .i64 0, .slice none 0 0] 108)).cell? ⟨b1, o1 + sn, none⟩ = some (.slice (some ⟨br, or, none⟩) lm rc) ∧ (Z0.alloc (.cells #[.int .i64 0, .int .i64 0, .slice none 0 0] 108)).cell? ⟨br, or + c, none⟩ = some (.int .i64 tv) ∧ (Z0.alloc (.cells #[.int .i64 0, .int .i64 0, .slice none 0 0] 108)).cell? ⟨W.heap.size + 1, 1, none⟩ = some (.slice (some ⟨b3, o3, none⟩) k.nx.length dap) ∧ (Z0.alloc (.cells #[.int .i64 0, .int .i64 0, .slice none 0 0] 108)).cell? ⟨H, 1, none⟩ = some (.int .i64 (tn : Nat)) ∧ (Z0.alloc (.cells #[.int .i64 0, .int .i64 0, .slice none 0 0] 108)).cell? ⟨b3, o3 + tn, none⟩ = some (.slice (some ⟨bs, os, none⟩) lk rd) ∧ (Z0.alloc (.cells #[.int .i64 0, .int .i64 0, .slice none 0 0] 108)).cell? ⟨bs, os + c, none⟩ = some (.int .i64 uv)) := by
            have hba := below_alloc Z0 (.cells #[.int .i64 0, .int .i64 0, .slice none 0 0] 108)
            obtain ⟨q1, q2, q3, q4, q5, q6, q7, q8⟩ := H20.out
            obtain ⟨z1, z2, z3, z4, z5, z6, z7⟩ := L6.out
            exact hid ⟨(hba.cell (p := ⟨W.heap.size, 1, none⟩) z1).trans q1, (hba.cell (p := ⟨H, 0, none⟩) z3).trans q2, (hba.cell (p := ⟨b1, o1 + sn, none⟩) z4).trans q3, (hba.cell (p := ⟨br, or + c, none⟩) z6).trans q4, (hba.cell (p := ⟨W.heap.size + 1, 1, none⟩) z2).trans q5, (hba.cell (p := ⟨H, 1, none⟩) z3).trans q6, (hba.cell (p := ⟨b3, o3 + tn, none⟩) z5).trans q7, (hba.cell (p := ⟨bs, os + c, none⟩) z7).trans q8⟩
          refine but_one (i := 19) (by kernel_rfl) ?_
          refine wpOp_one rfl (by rfl) (fun K hK => ?_)
          go_simp
          refine hK _ _ ⟨fun _ => H21.out, ?_⟩
          clear hK K
          try simp only [Act.put, List.setIfInBounds_toArray, List.set_cons_zero, List.set_cons_succ]
          refine but_one (i := 20) (by kernel_rfl) ?_
          refine wpOp_one rfl (by rfl) (fun K hK => ?_)
          go_simp
          refine hK _ _ ⟨fun h => absurd rfl h, but_done (by kernel_rfl) ?_ _⟩
          clear hK K
          try simp only [Act.put, List.setIfInBounds_toArray, List.set_cons_zero, List.set_cons_succ]
          have hba := below_alloc Z0 (.cells #[.int .i64 tv, .int .i64 uv, .slice none 0 0] 108)
          have hI7 := HI6.out.below hba
          have hB7 := HB6.out.below hba
          have hBy := box_new Z0 (.int .i64 tv) (.int .i64 uv) (.slice none 0 0) 108
          have hr7 : (Z0.alloc (.cells #[.int .i64 tv, .int .i64 uv, .slice none 0 0] 108)).rowIs Z0.heap.size 108 3 (rowY tv uv (.slice none 0 0)) := World.rowIs_alloc Z0 #[.int .i64 tv, .int .i64 uv, .slice none 0 0] 108 (rowY tv uv (.slice none 0 0)) (rowY_at _ _ _)
          have hHZ : H < Z0.heap.size := L6.out.2.2.1
          have hvY := fun e => Nat.lt_irrefl _ (HI6.out.out.lt Z0.heap.size e).2
          have HvY := hid hvY
          clear hvY
          have hVZ : V.heap.size < Z0.heap.size := HI6.out.map.lt
          have hVs := HVs.out
          obtain ⟨l, hl⟩ := key102 hwm hwk
          have hpv : pairV k.nx.length d = .agg #[.int .i64 tv, .int .i64 uv] := by unfold pairV; rw [hdq, hdr]
          have hplen := part_len HA.out i c Hlt.out (Nat.le_of_lt Hlc.out)
          clear H20 H21 HI6 HB6 L6 hba
          generalize hY0 : Z0.heap.size = Y at *
          generalize Z0.alloc (.cells #[.int .i64 tv, .int .i64 uv, .slice none 0 0] 108) = w7 at *
          have y0 := hBy.c0
          have y1 := hBy.c1
          have y2 := hBy.c2
          have yl := hBy.lt
          by_cases hs : d ∈ (part m.L.toNat (jnS m k) i c)
          · have hlook := hI7.map.look_yes law102 Try.underlying103 hl (hpv ▸ gS_yes hs) false
            simp only [Bool.false_eq_true, if_false] at hlook
            rw [hVs] at hlook
            have e1 := hid (HP.out hs)
            have e2 := HE.out
            rw [if_pos hs] at e2
            have E2 := hid e2
            have HI7 := hid hI7
            have HB7 := hid hB7
            clear e2 HP HF HE hs hI7 hB7 hBy hr7 hpv hl hdq hdr hwm hwk hplen
            go_wp2_with fail
            go_roundw
            case rel => exact ⟨c + 1, R', by go_num, Hlc.out, HRi.out, by rw [e1.out, E2.out]; exact HI7.out, HB7.out, Hvo.out⟩
            case measure => have := Hlc.out; simp [intOf]; omega
          · have hlook := hI7.map.look_no law102 Try.underlying103 (zero4 w7) hl (hpv ▸ gS_no HKp.out hs) false
            simp only [Bool.false_eq_true, if_false] at hlook
            rw [hVs] at hlook
            obtain ⟨w2, hrun2, hM2, hg2, hz9⟩ := hI7.map.insert law102 Try.underlying103 (v := .bool true) hl (hpv ▸ gS_no HKp.out hs)
            rw [hVs] at hrun2
            have hM3 := hM2.congr (g' := gS k.nx.length ((part m.L.toNat (jnS m k) i c) ++ [d])) (fun y => by rw [← hpv]; exact gS_new y)
            have hlen1 : ((part m.L.toNat (jnS m k) i c) ++ [d]).length = (part m.L.toNat (jnS m k) i c).length + 1 := by simp
            rw [← hlen1] at hM3
            have hI2 := hI7.insert hg2 hM3
            have hB2 := hB7.grown hg2 (by intro e; cases e; omega)
            have hBy2 := hBy.grown hg2 (by intro e; cases e; omega)
            have hr2 := hr7.of_block (hg2.block Y yl (by intro e; cases e; omega))
            obtain ⟨f1, f2⟩ := HF.out hs
            have e2 := HE.out
            rw [if_neg hs, Hwd.out] at e2
            have hii := (part_get m.L.toNat (jnS m k) i c Hlt.out).1
            have hU := hI2.wd i hii
            rw [HRi.out, ext_at c (by rw [rawW_len]; exact Hlt.out), Hwd.out] at hU
            have hwl : wd.length ≤ 5100 := by have := word_len HA.out i Hlt.out; rw [Hwd.out] at this; exact this
            have HU := hid hU
            have Hii := hid hii
            have Hwl := hid hwl
            have F1 := hid f1
            have E2 := hid e2
            have HI2 := hid hI2
            have HB2 := hid hB2
            have HBy2 := hid hBy2
            have Hr2 := hid hr2
            have Hdq := hid hdq
            have Hdr := hid hdr
            have Hplen := hid hplen
            have hEm := World.ownsRow_lit (base := V.heap.size) (e := 3) (size := 1) w2 #[] 0 (by have := hI2.bl.size; omega) (by unfold maxLen; omega) rfl
            have HEm := hid hEm
            have x0 := hB2.c0
            have x1 := hB2.c1
            have x2 := hB2.c2
            have xl := hB2.lt
            have y0 := hBy2.c0
            have y1 := hBy2.c1
            have y2 := hBy2.c2
            have yl := hBy2.lt
            have hV2 := hI2.bl.size
            have hne4 : Y ≠ V.heap.size := by omega
            have hne5 : Y ≠ H := by omega
            clear hz9 hM2 hg2 hM3 hlen1 f1 f2 e2 hii hU HP HF HE hs hI7 hB7 hBy hr7 hl hpv hI2 hB2 hBy2 hr2 hdq hdr hwm hwk hplen hwl hEm
            go_wp2_with (first
              | (at_builtin; go_loud (refine wpList_append_row (o := ⟨some 68, _, _, _, _, _⟩) rfl _ _ 33 rfl V.heap.size 3 i0 (.int .i64 0) 8 Try.underlying33 hi0 hz0 hz1 hz2 rfl _ 0 [] rfl HEm.out _ _ V.heap.size _ rfl (HU.out.alloc _) (ints_one _) (by have := Hwl.out; unfold maxLen; omega) (by have := Hwl.out; omega) (by simp; omega) ?_); intro v3 w3 hown3 hgrow3 hat3; rw [Nat.zero_add, List.nil_append] at hown3; obtain ⟨a3, k3, e3⟩ := row_shape hown3; subst e3; have hb3' := (below_alloc w2 (.cells #[] 3)).grown hgrow3 (by simp) (fun g hg => by have hg' : some w2.heap.size = some g := hg; cases hg'; exact Nat.le_refl _); have HI3 := hid (HI2.out.below hb3'); have z0 := (HBy2.out.below hb3').c0; have z1 := (HBy2.out.below hb3').c1; have z2 := (HBy2.out.below hb3').c2; have zl := (HBy2.out.below hb3').lt; have hV3 := hb3'.size; clear x0 x1 x2 xl y0 y1 y2 yl HU HEm hgrow3)
              | (at_builtin; go_loud (refine wpList_append_own_at (o := ⟨some 71, _, _, _, _, _⟩) _ rfl _ _ 33 rfl V.heap.size 3 i0 (.int .i64 0) 1 8 Try.underlying33 hi0 hz0 hz1 hz2 rfl (by decide) _ _ _ rfl (hown3.alloc _) ⟨w3.heap.size, 0, none⟩ 1 1 [.int .i64 (c : Nat)] rfl rfl (news_one w3 (.int .i64 (c : Nat)) 3).out (by simp [Value.oneCell']) (by have := Hwl.out; unfold maxLen; omega) (by have := Hwl.out; omega) (by simp; omega) ?_); intro v4 w4 hown4 hgrow4 _ hat4; obtain ⟨a4, k4, e4⟩ := row_shape hown4; subst e4; have hb4' := grow_two hb3' hat3 hgrow4; have hr4 := rowIs_below Hr2.out hb4' Hr2.out.lt; have q0 := hr4.cell (i := 0) (by omega); have q1 := hr4.cell (i := 1) (by omega); have q2 := hr4.cell (i := 2) (by omega); have qy := hr4.frozen 2; have ql := hr4.lt; go_loud (have Ho4 := hid (own_set hown4 hr4 (by decide) 2 (.slice a4 (wd.length + 1) k4)); have HI4 := HI2.out.below hb4'; have hI5 := HI4.setCell hr4 (Nat.le_of_lt hVZ) hne4 HvY.out 2 (.slice a4 (wd.length + 1) k4); have hV8 := hI5.bl.size; have HI5 := hid hI5; have HB5 := hid ((HB2.out.below hb4').setCell (b := Y) hne5 2 (.slice a4 (wd.length + 1) k4)); have hnw := news_three (w4.setCell ⟨Y, 2, none⟩ (.slice a4 (wd.length + 1) k4)) (.int .i64 tv) (.int .i64 uv) (.slice a4 (wd.length + 1) k4) 108; rw [show (w4.setCell ⟨Y, 2, none⟩ (.slice a4 (wd.length + 1) k4)).heap.size = w4.heap.size by simp] at hnw; have hV4 := hb4'.size; clear z0 z1 z2 zl hr4 HI3 hown3 hgrow4 hat4 hat3 hb3' HI4 hI5 hb4' hown4; simp only [rowY, if_true, if_false, show (1 : Nat) ≠ 0 by omega, show (2 : Nat) ≠ 0 by omega, show (2 : Nat) ≠ 1 by omega, ite_true, ite_false] at q0 q1 q2))
              | (at_builtin; go_loud (refine wpList_append_own_at (o := ⟨some 76, _, _, _, _, _⟩) _ rfl _ _ 105 rfl V.heap.size 108 i8 (.agg #[.int .i64 0, .int .i64 0, .slice none 0 0]) 3 40 Try.underlying105 hi8 hy0 hy1 hy2 rfl (by decide) _ _ _ rfl (HI5.out.out.alloc _) ⟨w4.heap.size, 0, none⟩ 1 1 [.int .i64 tv, .int .i64 uv, (.slice a4 (wd.length + 1) k4)] rfl rfl hnw.out (by simp [Value.oneCell']) (by have := Hplen.out; unfold maxLen; omega) (by have := Hplen.out; omega) (by simp; omega) ?_); intro v6' w6 hown6 hgrow6 _ hat6))
            have e5 : atV k.nx.length d (.slice a4 (wd.length + 1) k4) = [.int .i64 tv, .int .i64 uv, .slice a4 (wd.length + 1) k4] := by unfold atV; rw [Hdq.out, Hdr.out]
            rw [← e5] at hown6
            have hI9 := HI5.out.push d (wd ++ [(c : Int)]) (.slice a4 (wd.length + 1) k4) (by have := Ho4.out; simpa using this) hgrow6 hown6
            have hB9 := (HB5.out.below (below_alloc (w4.setCell ⟨Y, 2, none⟩ (.slice a4 (wd.length + 1) k4)) _)).grown hgrow6 Hvo.out
            have hvo9 : Value.ownBlock v6' ≠ some H := by
              rcases hat6 with h | h
              · rw [h]; exact Hvo.out
              · rw [h]; intro e; have := HB5.out.lt; simp at e; omega
            have HI9 := hid hI9
            have HB9 := hid hB9
            clear e5 hown6 hgrow6 hat6 hI9 hB9 HI5 HB5 q0 q1 q2 qy ql hV8 hnw
            go_wp2_with fail
            go_roundw
            case rel => exact ⟨c + 1, (fun j => if j = (part m.L.toNat (jnS m k) i c).length then .slice a4 (wd.length + 1) k4 else R' j), by go_num, Hlc.out, by show (if i = (part m.L.toNat (jnS m k) i c).length then _ else R' i) = _; rw [if_neg (by have := Hii.out; omega)]; exact HRi.out, by rw [F1.out, E2.out]; exact HI9.out, HB9.out, hvo9⟩
            case measure => have := Hlc.out; simp [intOf]; omega
        · obtain rfl : c = m.L.toNat := by omega
          have hpa := part_all (step := jnS m k) i Hlt.out
          have hea : rawW m.L.toNat (jnS m k) (i + 1) = extW m.L.toNat (jnS m k) i (rawW m.L.toNat (jnS m k) i) m.L.toNat := by rw [rawW, if_pos Hlt.out]
          rw [hpa, ← hea] at hI
          have hgo := (raw_pre (L := m.L.toNat) (step := jnS m k) (show i ≤ i + 1 by omega)).length_le
          have hl1 := raw_len HA.out i
          have HI1 := hid hI
          have i10 : ¬ ((m.L.toNat : Nat) : Int) < m.L := by omega
          have hlt' := Hlt.out
          clear hI hB hvo hpa hea
          go_wp2_with fail
          go_roundw
          case rel => exact ⟨i + 1, R', by go_num, by have := Hlt.out; omega, HI1.out⟩
          case measure => have := Hlt.out; simp [intOf]; omega
    · obtain ⟨bo, co, rfl, hbo, hVbo, c0, c1, c2⟩ := hI.cells (i := 0) (raw_pos i)
      have i2 : ¬ (i : Int) < ((raw m.L.toNat (jnS m k) i).length : Int) := by omega
      have HI1 := hid hI
      clear hI c0 c1 c2
      go_wp2_with fail
      go_ret
      exact ⟨i, _, R, V, V.heap.size, hlt, hi, HI1.out, rfl, by have := HVs.out; omega, Hb0.out.trans (HI1.out.bl.mono (by have := HVs.out; omega))⟩
end Go.Proofs.Ytmllbemjcfkmjaa
