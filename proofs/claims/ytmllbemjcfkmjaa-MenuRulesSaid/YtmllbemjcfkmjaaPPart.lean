/- 'Part' and 'Same': what they return. -/
import Derived.Test.YtmllbemjcfkmjaaPartInv
import Derived.Test.YtmllbemjcfkmjaaRPart
import Derived.BigQuiet
import Derived.Deep.DeepCutAuto
namespace Go.Proofs.Ytmllbemjcfkmjaa
open Go.RowKit Go.Maps
set_option linter.unusedSimpArgs false
set_option linter.unusedVariables false

theorem part_pos {step : Int → Nat → Int} (L i c : Nat) : 1 ≤ (part L step i c).length := by
  have h1 := (part_pre (L := L) (step := step) i (Nat.zero_le c)).length_le
  have h2 := raw_pos (L := L) (step := step) i
  rw [part_zero] at h1
  omega
theorem row_shapeZ {w : World} {B n z : Nat} {e : TypeId} {v : Value} {xs : List Value} (h : w.ownsRow B e z v n xs) : ∃ a cap, v = .slice a n cap := by
  rcases h.2 with ⟨rfl, rfl⟩ | ⟨g, cap, cur, rfl, _⟩
  · exact ⟨_, _, rfl⟩
  · exact ⟨_, _, rfl⟩
theorem news_four (w : World) (x y z u : Value) (e : TypeId) : Hid (∀ t v, ([x, y, z, u])[t]? = some v → (w.alloc (.cells #[x, y, z, u] e)).cell? ((⟨w.heap.size, 0, none⟩ : Addr).add t) = some v) := by
  have := World.news_of_block (cs := #[x, y, z, u]) (t := e) (fr := (0, 0)) (heap_alloc_new w (.cells #[x, y, z, u] e))
  exact hid (by simpa using this)
def rowQ (x y z u : Value) (i : Nat) : Value := if i = 0 then x else if i = 1 then y else if i = 2 then z else u
theorem rowQ_at (x y z u : Value) : ∀ i, i < (#[x, y, z, u] : Array Value).size → (#[x, y, z, u] : Array Value)[i]? = some (rowQ x y z u i) := by
  intro i hi
  have : i < 4 := hi
  match i, this with
  | 0, _ => rfl
  | 1, _ => rfl
  | 2, _ => rfl
  | 3, _ => rfl
theorem PkI.start {w1 w4 : World} {K : Int} (hK : 0 < K) (hM : MapOf Try.prog 102 w4 (w1.heap.size + 1 + 1) 1 (gS K [0]))
    (hg : (((w1.alloc (.cells #[.int .i64 (-1), .int .i64 0, .int .i64 0, .int .i64 0] 100)).alloc (.cells #[.slice (some ⟨w1.heap.size, 0, none⟩) 1 1] 101)).alloc (.map #[] 0)).grownBy w4 (some (w1.heap.size + 1 + 1))) (hz : w4.heap.size = w1.heap.size + 1 + 1 + 1) :
    PkI w1 (w1.heap.size + 1 + 1) (w1.heap.size + 1) (w1.heap.size + 1 + 1 + 1) K [0] [0] [(-1, 0)] (.slice (some ⟨w1.heap.size, 0, none⟩) 1 1) (w4.alloc (.cells #[fnV (w1.heap.size + 1) (w1.heap.size + 1 + 1 + 1)] 104)) := by
  have s1 : (w1.alloc (.cells #[.int .i64 (-1), .int .i64 0, .int .i64 0, .int .i64 0] 100)).heap.size = w1.heap.size + 1 := by simp
  have s2 : ((w1.alloc (.cells #[.int .i64 (-1), .int .i64 0, .int .i64 0, .int .i64 0] 100)).alloc (.cells #[.slice (some ⟨w1.heap.size, 0, none⟩) 1 1] 101)).heap.size = w1.heap.size + 1 + 1 := by simp
  have hb4 : Below w1.heap.size w1 w4 := ((((below_alloc w1 _).alloc (by simp) _).alloc (by simp; omega) _)).grown hg (by simp; omega) fun k hk => by cases hk; omega
  have hA0 := World.rowIs_alloc (w1.alloc (.cells #[.int .i64 (-1), .int .i64 0, .int .i64 0, .int .i64 0] 100)) #[.slice (some ⟨w1.heap.size, 0, none⟩) 1 1] 101 (fun _ => .slice (some ⟨w1.heap.size, 0, none⟩) 1 1) (by
    intro i hi
    have : i = 0 := by have : i < 1 := hi; omega
    subst this; rfl)
  have hB0 := World.rowIs_alloc w4 #[fnV (w1.heap.size + 1) (w1.heap.size + 1 + 1 + 1)] 104 (fun _ => fnV (w1.heap.size + 1) (w1.heap.size + 1 + 1 + 1)) (by
    intro i hi
    have : i = 0 := by have : i < 1 := hi; omega
    subst this; rfl)
  rw [s1] at hA0
  rw [hz] at hB0
  have ho := World.ownsRow_lit (base := w1.heap.size) (e := 100) (size := 4) w1 #[.int .i64 (-1), .int .i64 0, .int .i64 0, .int .i64 0] 1 (Nat.le_refl _) (by unfold maxLen; omega) rfl
  have er : rows4 K [(-1, 0)] [0] = [.int .i64 (-1), .int .i64 0, .int .i64 0, .int .i64 0] := by simp [rows4, row4]
  refine ⟨hb4.alloc hb4.size _, by omega, by omega, ?_, hB0, hM.grown (World.grownBy_alloc w4 _ none) (by simp), ?_, rfl⟩
  · have h1 := hA0.alloc (.map #[] 0)
    have h2 := h1.of_block (hg.block (w1.heap.size + 1) h1.lt (fun e => by have e' := Option.some.inj e; omega))
    exact h2.alloc _
  · rw [er]
    have h1 := ((ho.alloc (.cells #[.slice (some ⟨w1.heap.size, 0, none⟩) 1 1] 101)).alloc (.map #[] 0)).kept hg (.inr (by intro e; have e' : some w1.heap.size = some (w1.heap.size + 1 + 1) := e; simp at e'; omega))
    exact h1.alloc _

theorem info100 : (Try.prog.info? 100).map (fun i => (i.zero, i.size, i.bytes)) = some (some (.agg #[.int .i64 0, .int .i64 0, .int .i64 0, .int .i64 0]), 4, 32) := by kernel_rfl
set_option maxRecDepth 100000 in
set_option maxHeartbeats 4000000 in
theorem Part_any (m k : Mac) (a a2 : Option Addr) (cap cap2 : Nat) (b b2 : Option Addr) (dap dap2 : Nat) (W : World) (hM : MacAt W a cap a2 cap2 m) (hK : MacAt W b dap b2 dap2 k) :
    Calls Try.prog 58 #[.agg #[.int .i64 m.L, .slice a m.nx.length cap, .slice a2 m.ac.length cap2], .agg #[.int .i64 k.L, .slice b k.nx.length dap, .slice b2 k.ac.length dap2]] W (PartPost m k W) := by
  have hb0 : Below W.heap.size W ((W.alloc (.cells #[.int .i64 m.L, .slice a m.nx.length cap, .slice a2 m.ac.length cap2] 25)).alloc (.cells #[.int .i64 k.L, .slice b k.nx.length dap, .slice b2 k.ac.length dap2] 25)) := (below_alloc W _).alloc (by simp) _
  have HV := hid (pair_any m k a a2 cap cap2 b b2 dap dap2 ((W.alloc (.cells #[.int .i64 m.L, .slice a m.nx.length cap, .slice a2 m.ac.length cap2] 25)).alloc (.cells #[.int .i64 k.L, .slice b k.nx.length dap, .slice b2 k.ac.length dap2] 25)) (hM.below hb0) (hK.below hb0))
  have HX : Hid (BoxAt W.heap.size ((W.alloc (.cells #[.int .i64 m.L, .slice a m.nx.length cap, .slice a2 m.ac.length cap2] 25)).alloc (.cells #[.int .i64 k.L, .slice b k.nx.length dap, .slice b2 k.ac.length dap2] 25)) (.int .i64 m.L) (.slice a m.nx.length cap) (.slice a2 m.ac.length cap2)) := hid (box_fst (Below.refl _ _) rfl)
  have HY : Hid (BoxAt (W.heap.size + 1) ((W.alloc (.cells #[.int .i64 m.L, .slice a m.nx.length cap, .slice a2 m.ac.length cap2] 25)).alloc (.cells #[.int .i64 k.L, .slice b k.nx.length dap, .slice b2 k.ac.length dap2] 25)) (.int .i64 k.L) (.slice b k.nx.length dap) (.slice b2 k.ac.length dap2)) := hid (box_snd (Below.refl _ _) rfl)
  have HM := hid (hM.below hb0)
  have HK := hid (hK.below hb0)
  have HB := hid hb0
  clear hM hK hb0
  by_cases hE : paiE m k = 0
  · obtain ⟨hm, hk, hL⟩ := paiE_zero.1 hE
    have HP := hid (show (MacOK m ∧ MacOK k ∧ m.L = k.L) ∧ paiE m k = 0 from ⟨⟨hm, hk, hL⟩, hE⟩)
    have HA := hid (jn_auto hm hk hL)
    have HKp : Hid ((0 : Int) < (k.nx.length : Int)) := hid (by have := hk.n1; omega)
    obtain ⟨i8, hi8, hy0, hy1, hy2⟩ := info_parts info100
    rw [hE] at HV
    have hm6 := hm.l6
    clear hm hk hL hE
    go_enter Try.func58, Try.ntmps58
    go_wp2_with fail
    refine HV.out.mono ?_; rintro e w1 ⟨rfl, hb1⟩
    replace HX := hid (HX.out.below hb1)
    replace HY := hid (HY.out.below hb1)
    replace HM := hid (HM.out.below hb1)
    replace HK := hid (HK.out.below hb1)
    replace HB := hid (HB.out.trans (hb1.mono HB.out.size))
    clear HV hb1
    obtain ⟨l0, hl0⟩ := key102 (x := 0) (y := 0) (by decide) (by decide)
    obtain ⟨w4, hrun, hM4, hg4, hz4⟩ := (mapOf_new Try.prog 102 ((w1.alloc (.cells #[.int .i64 (-1), .int .i64 0, .int .i64 0, .int .i64 0] 100)).alloc (.cells #[.slice (some ⟨w1.heap.size, 0, none⟩) 1 1] 101))).insert law102 Try.underlying103 (x := .agg #[.int .i64 0, .int .i64 0]) (v := .bool true) hl0 rfl
    have hUs : ((w1.alloc (.cells #[.int .i64 (-1), .int .i64 0, .int .i64 0, .int .i64 0] 100)).alloc (.cells #[.slice (some ⟨w1.heap.size, 0, none⟩) 1 1] 101)).heap.size = w1.heap.size + 1 + 1 := by simp
    have hz4' : w4.heap.size = w1.heap.size + 1 + 1 + 1 := by rw [hz4]; simp
    rw [hUs] at hrun
    have HM4 := hid hM4
    have HG4 := hid hg4
    clear hz4 hl0 hM4 hg4
    have HI := hid (PkI.start (w1 := w1) (K := k.nx.length) HKp.out (by
      rw [hUs] at HM4
      exact HM4.out.congr (fun y => by
        rw [show ([0] : List Int) = [] ++ [0] from rfl, ← gS_new (S := []) (c := 0) y]
        have e : pairV (k.nx.length) 0 = .agg #[.int .i64 0, .int .i64 0] := by simp [pairV]
        rw [e]
        have e0 : gS (k.nx.length) [] y = none := by unfold gS; rw [if_neg (by rintro ⟨c, hc, _⟩; cases hc)]
        rw [e0])) (by rw [hUs] at HG4; exact HG4.out) hz4')
    clear hUs HM4 HG4
    have hmm := @run_makeMap Try.prog
    go_wp2_with fail
    clear hmm hrun hz4'
    have HE5 : Hid (W.heap.size + 1 < w1.heap.size) := hid HY.out.lt
    unfold fnV at HI
    generalize w4.alloc (.cells #[.func (.func 96) #[] #[.pointer (some ⟨w1.heap.size + 1, 0, none⟩), .pointer (some ⟨w1.heap.size + 1 + 1 + 1, 0, none⟩)]] 104) = w5 at *
    go_loopw [11] (fun v11 w' => ∃ (i : Nat) (v : Value), v11 = .int .i64 i ∧ i ≤ (raw m.L.toNat (jnS m k) i).length ∧ Hid (∀ j, j < i → jnA wXor m k ((raw m.L.toNat (jnS m k) i).getD j 0) = false) ∧ PkI w1 (w1.heap.size + 1 + 1) (w1.heap.size + 1) (w1.heap.size + 1 + 1 + 1) k.nx.length (raw m.L.toNat (jnS m k) i) (raw m.L.toNat (jnS m k) i) (rawP m.L.toNat (jnS m k) i) v w') (fun v11 _ => 5100 - (intOf v11).toNat)
    case atStart => exact ⟨0, _, rfl, by have := raw_pos (L := m.L.toNat) (step := jnS m k) 0; omega, hid fun j hj => absurd hj (Nat.not_lt_zero j), HI.out⟩
    case round =>
      clear HI
      obtain ⟨i, v, rfl, hi, HN, hI⟩ := hrel
      have hlS := raw_len HA.out i
      have Hi := hid (show i ≤ 5100 by omega)
      by_cases hlt : i < (raw m.L.toNat (jnS m k) i).length
      · obtain ⟨bo, co, rfl, hbo, hVbo, c0, c1, c2, c3⟩ := hI.cells hlt
        have hin := raw_in HA.out i ((raw m.L.toNat (jnS m k) i).getD i 0) (by simp [List.getD, hlt])
        obtain ⟨sn, tn, hn⟩ := next_pair HP.out.1.1 HP.out.1.2.1 HP.out.1.2.2 hin.1 hin.2 0 (by have := HP.out.1.1.l1; omega)
        rw [hn.q] at c2
        rw [hn.r] at c3
        have HN2 := hid (fun c hc => next_pair HP.out.1.1 HP.out.1.2.1 HP.out.1.2.2 hin.1 hin.2 c hc)
        have Hq := hid hn.q
        have Hr := hid hn.r
        have Hlt := hid hlt
        have hXw := HX.out.below hI.bl
        have hYw := HY.out.below hI.bl
        obtain ⟨ba, oa, ea, hba, d1⟩ := (HM.out.below hI.bl).ac sn (by rw [HP.out.1.1.ac]; exact hn.lm)
        obtain ⟨bb, ob, eb, hbb, d2⟩ := (HK.out.below hI.bl).ac tn (by rw [HP.out.1.2.1.ac]; exact hn.lk)
        have hfa : jnA wXor m k ((raw m.L.toNat (jnS m k) i).getD i 0) = wXor (m.ac.getD sn false) (k.ac.getD tn false) := by
          unfold jnA
          rw [hn.q, hn.r]
          unfold accM
          rw [Int.toNat_natCast, Int.toNat_natCast]
        have Hfa := hid hfa
        have i6 : (0 : Int) ≤ (sn : Int) := by omega
        have i7 : (sn : Int) < (m.ac.length : Int) := by have := hn.lm; rw [HP.out.1.1.ac]; omega
        have i8' : (0 : Int) ≤ (tn : Int) := by omega
        have i9 : (tn : Int) < (k.ac.length : Int) := by have := hn.lk; rw [HP.out.1.2.1.ac]; omega
        have i11 : (0 : Int) ≤ (i : Int) := by omega
        have i12 : (i : Int) < ((raw m.L.toNat (jnS m k) i).length : Int) := by omega
        have x2 := hXw.c2
        have xl := hXw.lt
        have y2 := hYw.c2
        have yl := hYw.lt
        rw [ea] at x2
        rw [eb] at y2
        have za := hI.ga.cell (i := 0) (by omega)
        have la := hI.ga.lt
        have HI := hid hI
        generalize hP0 : ((rawP m.L.toNat (jnS m k) i).getD i (0, 0)).1 = p0 at *
        generalize hP1 : ((rawP m.L.toNat (jnS m k) i).getD i (0, 0)).2 = p1 at *
        generalize m.ac.getD sn false = bp at *
        generalize k.ac.getD tn false = bq at *
        clear hin hn hXw hYw hfa hI hP0 hP1 hi hlS hlt
        cases hx : wXor bp bq
        · have e1 : (!bp == bq) = false := by revert hx; cases bp <;> cases bq <;> decide
          rw [hx] at Hfa
          clear hx
          go_wp2_with fail
          go_quiet (fail)
          have hB0 := rowIs_drewN (World.rowIs_alloc wr #[.int .i64 p0, .int .i64 p1, .int .i64 (sn : Nat), .int .i64 (tn : Nat)] 100 (rowQ (.int .i64 p0) (.int .i64 p1) (.int .i64 (sn : Nat)) (.int .i64 (tn : Nat))) (rowQ_at _ _ _ _)) nq
          have hI1 := HI.out.below (below_quiet (n := nq) (below_alloc wr (.cells #[.int .i64 p0, .int .i64 p1, .int .i64 (sn : Nat), .int .i64 (tn : Nat)] 100)))
          have hvo : Value.ownBlock (.slice (some ⟨bo, 0, none⟩) (raw m.L.toNat (jnS m k) i).length co) ≠ some wr.heap.size := by intro e; have e' : bo = wr.heap.size := Option.some.inj e; omega
          have HX1 := (HX.out.below hI1.bl).c0
          have HX2 := (HX.out.below hI1.bl).lt
          have HB1 := hid hB0
          have HI1 := hid hI1
          have hVH := HI.out.bl.size
          clear hB0 hI1 HI c0 c1 c2 c3 d1 d2 x2 xl y2 yl za la hbo hVbo hba hbb i6 i7 i8' i9 ea eb e1
          generalize hZ : wr.heap.size = H at *
          generalize hZw : (wr.alloc (.cells #[.int .i64 p0, .int .i64 p1, .int .i64 (sn : Nat), .int .i64 (tn : Nat)] 100)).drewN nq = w6 at *
          go_wp2_with fail
          clear HX1 HX2
          go_loopw [56] (fun v56 w' => ∃ (c : Nat) (v : Value), v56 = .int .i64 c ∧ c ≤ m.L.toNat ∧ PkI w1 (w1.heap.size + 1 + 1) (w1.heap.size + 1) (w1.heap.size + 1 + 1 + 1) k.nx.length (part m.L.toNat (jnS m k) i c) (part m.L.toNat (jnS m k) i c) (extP m.L.toNat (jnS m k) i (rawP m.L.toNat (jnS m k) i) c) v w' ∧ w'.rowIs H 100 4 (rowQ (.int .i64 p0) (.int .i64 p1) (.int .i64 (sn : Nat)) (.int .i64 (tn : Nat))) ∧ v.ownBlock ≠ some H) (fun v56 _ => m.L.toNat - (intOf v56).toNat)
          case atStart => exact ⟨0, _, rfl, by omega, HI1.out, HB1.out, hvo⟩
          case round =>
            clear HI1 HB1 hvo hZ hZw
            obtain ⟨c, v, rfl, hc, hI, hB, hvo⟩ := hrel
            by_cases hlc : c < m.L.toNat
            · obtain ⟨sn', tn', hn⟩ := HN2.out c hlc
              have e1 := hn.q
              have e2 := hn.r
              rw [Hq.out] at e1
              rw [Hr.out] at e2
              obtain rfl : sn = sn' := by omega
              obtain rfl : tn = tn' := by omega
              have hX := HX.out.below hI.bl
              have hY := HY.out.below hI.bl
              obtain ⟨b1, o1, ea1, hb1, ra, rc, q0, r1, r2, hIA⟩ := (HM.out.below hI.bl).nx sn hn.lm
              obtain ⟨b3, o3, ea3, hb3, rb, rd, q3, r3, r4, hIB⟩ := (HK.out.below hI.bl).nx tn hn.lk
              obtain ⟨br, or, rfl, hbr, cr⟩ := hIA c (by have := hn.rm; omega)
              obtain ⟨bs, os, rfl, hbs, cs⟩ := hIB c (by have := hn.rk; omega)
              have HPo := hid (part_old m.L.toNat (jnS m k) i c)
              have HF := hid (part_fresh m.L.toNat (jnS m k) i c)
              have HE : Hid (extP m.L.toNat (jnS m k) i (rawP m.L.toNat (jnS m k) i) (c + 1) = if jnS m k ((raw m.L.toNat (jnS m k) i).getD i 0) c ∈ (part m.L.toNat (jnS m k) i c) then (extP m.L.toNat (jnS m k) i (rawP m.L.toNat (jnS m k) i) c) else (extP m.L.toNat (jnS m k) i (rawP m.L.toNat (jnS m k) i) c) ++ [((i : Int), (c : Int))]) := hid (by rw [extP])
              have hdq := hn.dq
              have hdr := hn.dr
              have hwm := hn.wm
              have hwk := hn.wk
              have i3 : (0 : Int) ≤ (c : Int) := by omega
              have i4 : (c : Int) < ((rowOf m sn).length : Int) := by have := hn.rm; omega
              have i5 : (c : Int) < ((rowOf k tn).length : Int) := by have := hn.rk; omega
              have i6 : (0 : Int) ≤ (sn : Int) := by omega
              have i7 : (sn : Int) < (m.nx.length : Int) := by have := hn.lm; omega
              have i8' : (0 : Int) ≤ (tn : Int) := by omega
              have i9 : (tn : Int) < (k.nx.length : Int) := by have := hn.lk; omega
              have i10 : (c : Int) < m.L := by omega
              have x1 := hX.c1
              have xl := hX.lt
              have y1 := hY.c1
              have yl := hY.lt
              rw [ea1] at x1
              rw [ea3] at y1
              have p2 := hB.cell (i := 2) (by omega)
              have p3 := hB.cell (i := 3) (by omega)
              have pl := hB.lt
              simp only [rowQ, if_true, if_false, show (2 : Nat) ≠ 0 by omega, show (2 : Nat) ≠ 1 by omega, show (3 : Nat) ≠ 0 by omega, show (3 : Nat) ≠ 1 by omega, show (3 : Nat) ≠ 2 by omega, ite_true, ite_false] at p2 p3
              generalize hDd : jnS m k ((raw m.L.toNat (jnS m k) i).getD i 0) c = d at *
              generalize nth (rowOf m sn) c = tv at *
              generalize nth (rowOf k tn) c = uv at *
              generalize (rowOf m sn).length = lm at *
              generalize (rowOf k tn).length = lk at *
              have hd : Below wr.heap.size wr wr := Below.refl _ _
              have HI6 := hid hI
              have HB6 := hid hB
              have Hvo := hid hvo
              have Hlc := hid hlc
              clear e1 e2 hDd hn hX hY r1 r2 r3 r4 hB hI hd hc hvo hlc ea1 ea3 hIA hIB
              go_wp2_with fail
              go_quiet (fail)
              have hI7 := HI6.out.below (below_quiet (n := nq) (Below.refl wr.heap.size wr))
              have hB7 := rowIs_drewN HB6.out nq
              generalize wr.drewN nq = w7 at *
              clear HI6 HB6 x1 xl y1 yl p2 p3 pl q0 q3 cr cs i3 i4 i5 i6 i7 i8' i9 hb1 hb3 hbr hbs
              obtain ⟨l, hl⟩ := key102 hwm hwk
              have hpv : pairV k.nx.length d = .agg #[.int .i64 tv, .int .i64 uv] := by unfold pairV; rw [hdq, hdr]
              have hplen := part_len HA.out i c Hlt.out (Nat.le_of_lt Hlc.out)
              by_cases hs : d ∈ (part m.L.toNat (jnS m k) i c)
              · have hlook := hI7.map.look_yes law102 Try.underlying103 hl (hpv ▸ gS_yes hs) false
                simp only [Bool.false_eq_true, if_false] at hlook
                have e1 := hid (HPo.out hs)
                have e2 := HE.out
                rw [if_pos hs] at e2
                have E2 := hid e2
                have HI7 := hid hI7
                have HB7 := hid hB7
                clear e2 HPo HF HE hs hI7 hB7 hpv hl hdq hdr hwm hwk hplen
                go_wp2_with fail
                go_roundw
                case rel => exact ⟨c + 1, v, by go_num, Hlc.out, by rw [e1.out, E2.out]; exact HI7.out, HB7.out, Hvo.out⟩
                case measure => have := Hlc.out; simp [intOf]; omega
              · have hlook := hI7.map.look_no law102 Try.underlying103 (zero4 w7) hl (hpv ▸ gS_no HKp.out hs) false
                simp only [Bool.false_eq_true, if_false] at hlook
                obtain ⟨w2, hrun2, hM2, hg2, hz9⟩ := hI7.map.insert law102 Try.underlying103 (v := .bool true) hl (hpv ▸ gS_no HKp.out hs)
                have hM3 := hM2.congr (g' := gS k.nx.length ((part m.L.toNat (jnS m k) i c) ++ [d])) (fun y => by rw [← hpv]; exact gS_new y)
                have hlen1 : ((part m.L.toNat (jnS m k) i c) ++ [d]).length = (part m.L.toNat (jnS m k) i c).length + 1 := by simp
                rw [← hlen1] at hM3
                have hI2 := hI7.insert hg2 hM3
                have hB2 := rowIs_map hB7 hI7.map hg2 (row_ne_map hB7 hI7.map)
                obtain ⟨f1, f2⟩ := HF.out hs
                have e2 := HE.out
                rw [if_neg hs] at e2
                have za := hI2.ga.cell (i := 0) (by omega)
                have la := hI2.ga.lt
                have F1 := hid f1
                have E2 := hid e2
                have HI2 := hid hI2
                have HB2 := hid hB2
                have Hdq := hid hdq
                have Hdr := hid hdr
                have Hplen := hid hplen
                have hV2 := hI2.bl.size
                have hnw := news_four w2 (.int .i64 (i : Nat)) (.int .i64 (c : Nat)) (.int .i64 tv) (.int .i64 uv) 100
                obtain ⟨b9, k9, e9⟩ : ∃ b9 k9, v = .slice b9 (part m.L.toNat (jnS m k) i c).length k9 := by
                  obtain ⟨g9, cap9, h9, _⟩ := hI2.out.form (by have := part_pos (step := jnS m k) m.L.toNat i c; omega)
                  exact ⟨_, _, h9⟩
                subst e9
                clear hz9 hM2 hg2 hM3 hlen1 f1 f2 e2 HPo HF HE hs hI7 hB7 hl hpv hI2 hB2 hdq hdr hwm hwk hplen
                go_wp2_with (at_builtin; go_loud (refine wpList_append_own_at (o := ⟨some 94, _, _, _, _, _⟩) _ rfl _ _ 101 rfl w1.heap.size 100 i8 (.agg #[.int .i64 0, .int .i64 0, .int .i64 0, .int .i64 0]) 4 32 Try.underlying101 hi8 hy0 hy1 hy2 rfl (by decide) _ _ _ rfl (HI2.out.out.alloc _) ⟨w2.heap.size, 0, none⟩ 1 1 [.int .i64 (i : Nat), .int .i64 (c : Nat), .int .i64 tv, .int .i64 uv] rfl rfl hnw.out (by simp [Value.oneCell']) (by have := Hplen.out; unfold maxLen; omega) (by have := Hplen.out; omega) (by simp; omega) ?_); intro v6 w6' hown6 hgrow6 _ hat6; obtain ⟨b6, k6, e6⟩ := row_shapeZ hown6; subst e6; have ha6 := row_keptZ HI2.out.ga HI2.out.out (by decide) hgrow6; have q0 := ha6.cell (i := 0) (by omega); have qy := ha6.frozen 0; have ql := ha6.lt; clear za la ha6)
                rw [show ([.int .i64 (i : Nat), .int .i64 (c : Nat), .int .i64 tv, .int .i64 uv] : List Value) = [.int .i64 ((i : Int), (c : Int)).1, .int .i64 ((i : Int), (c : Int)).2, .int .i64 (d / (k.nx.length : Int)), .int .i64 (d % (k.nx.length : Int))] by rw [Hdq.out, Hdr.out]] at hown6
                generalize hv6 : (.slice b6 ((part m.L.toNat (jnS m k) i c).length + 1) k6 : Value) = v6 at *
                have ha6 := row_keptZ HI2.out.ga HI2.out.out (by decide) hgrow6
                have hI9 := HI2.out.push ((i : Int), (c : Int)) d hgrow6 hown6
                have hB9 : (w6'.setCell ⟨w1.heap.size + 1, 0, none⟩ v6).rowIs H 100 4 (rowQ (.int .i64 p0) (.int .i64 p1) (.int .i64 (sn : Nat)) (.int .i64 (tn : Nat))) := by
                  have h1 := (HB2.out.alloc (.cells #[.int .i64 (i : Nat), .int .i64 (c : Nat), .int .i64 tv, .int .i64 uv] 100))
                  have h2 := h1.of_block (hgrow6.block H h1.lt (fun e => Hvo.out e.symm))
                  exact h2.of_block (Below.heap_setCell w6' ⟨w1.heap.size + 1, 0, none⟩ v6 H (fun e => row_typeNe h2 ha6 (by decide) e))
                have hvo9 : Value.ownBlock v6 ≠ some H := by
                  rcases hat6 with h | h
                  · rw [h]; exact Hvo.out
                  · rw [h]; intro e; have := HB2.out.lt; simp at e; omega
                have HI9 := hid hI9
                have HB9 := hid hB9
                have Hv9 := hid hvo9
                clear hown6 hgrow6 hat6 hI9 hB9 hvo9 HI2 HB2 hnw ha6
                go_wp2_with fail
                go_roundw
                case rel => exact ⟨c + 1, v6, by go_num, Hlc.out, by rw [F1.out, E2.out]; exact HI9.out, HB9.out, Hv9.out⟩
                case measure => have := Hlc.out; simp [intOf]; omega
            · obtain rfl : c = m.L.toNat := by omega
              have hpa := part_all (step := jnS m k) i Hlt.out
              have hea : rawP m.L.toNat (jnS m k) (i + 1) = extP m.L.toNat (jnS m k) i (rawP m.L.toNat (jnS m k) i) m.L.toNat := by rw [rawP, if_pos Hlt.out]
              rw [hpa, ← hea] at hI
              have hgo := (raw_pre (L := m.L.toNat) (step := jnS m k) (show i ≤ i + 1 by omega))
              have hgl := hgo.length_le
              have hl1 := raw_len HA.out i
              have HI1 := hid hI
              have HN1 : Hid (∀ j, j < i + 1 → jnA wXor m k ((raw m.L.toNat (jnS m k) (i + 1)).getD j 0) = false) := hid fun j hj => by
                have hj' : j < (raw m.L.toNat (jnS m k) i).length := by have := Hlt.out; omega
                have e0 : (raw m.L.toNat (jnS m k) (i + 1)).getD j 0 = (raw m.L.toNat (jnS m k) i).getD j 0 := by
                  have := pre_get' hgo hj'
                  simp [List.getD, this]
                rw [e0]
                rcases Nat.lt_succ_iff_lt_or_eq.1 hj with e | e
                · exact HN.out j e
                · subst e; exact Hfa.out
              have i10 : ¬ ((m.L.toNat : Nat) : Int) < m.L := by omega
              have hlt' := Hlt.out
              clear hI hB hvo hpa hea hgo
              go_wp2_with fail
              go_roundw
              case rel => exact ⟨i + 1, v, by simp, by omega, HN1.out, HI1.out⟩
              case measure => exact meas_lt (by omega) rfl
        · have e1 : (!bp == bq) = true := by revert hx; cases bp <;> cases bq <;> decide
          rw [hx] at Hfa
          clear hx
          have zb := HI.out.gb.cell (i := 0) (by omega)
          have lb := HI.out.gb.lt
          unfold fnV at zb
          have hL6 : m.L.toNat ≤ 6 := by have := HP.out.1.1.l6; omega
          have HWO := hid (words_ok (K := (k.nx.length : Int)) (raw_ok (L := m.L.toNat) (step := jnS m k) hL6 i) (fun j hj => by
            have hjw : j < (rawW m.L.toNat (jnS m k) i).length := by rw [rawW_len]; exact hj
            have h1 := (rawW_word (step := jnS m k) hL6 i ((rawW m.L.toNat (jnS m k) i).getD j []) (by simp [List.getD, hjw])).1
            have h2 := Hi.out
            omega))
          clear hL6
          have HPl := hid (HI.out.places (by have := raw_pos (L := m.L.toNat) (step := jnS m k) i; omega) rfl)
          have hl5 := raw_len HA.out i
          have HR := hid (par_hit HP.out.2 Hi.out Hlt.out Hfa.out HN.out)
          go_wp2_with fail
          go_quiet (fail)
          go_wp2_with fail
          have hbq := below_quiet (n := nq) (below_alloc wr (.cells #[.int .i64 p0, .int .i64 p1, .int .i64 (sn : Nat), .int .i64 (tn : Nat)] 100))
          have HB9 := hid (HB.out.trans ((HI.out.bl.trans (hbq.mono HI.out.bl.size)).mono HB.out.size))
          refine (word96_any HWO _ _ _ _ hl5 i Hlt.out _ (HPl.out.below hbq)).mono ?_
          rintro e w7 ⟨v7, rfl, hown7, hb7⟩
          obtain ⟨ar, cr, er, hIr, k1, k2⟩ := own_ints hown7
          subst er
          have HIr := hid hIr
          have HB7 := hid (HB9.out.trans (hb7.mono HB9.out.size))
          clear hown7 hb7 hIr HB9 hbq
          go_wp2_with fail
          go_ret3
          exact ⟨ar, cr, by rw [HR.out.1, HR.out.2, HP.out.2]; rfl, by rw [HR.out.2]; exact HIr.out, HB7.out, by rw [HR.out.2]; exact k1, k2⟩
      · have hie : ¬ (i : Int) < ((raw m.L.toNat (jnS m k) i).length : Int) := by omega
        obtain ⟨bo, co, rfl, hbo, hVbo, c0, c1, c2, c3⟩ := hI.cells (i := 0) (raw_pos i)
        have za := hI.ga.cell (i := 0) (by omega)
        have la := hI.ga.lt
        have HR := hid (par_none Hi.out (by omega) (fun j hj => HN.out j (by omega)))
        have HZ := hid (HB.out.trans (hI.bl.mono HB.out.size))
        clear c0 c1 c2 c3 hI
        go_wp2_with fail
        go_ret3
        exact ⟨none, 0, by rw [HR.out.1, HR.out.2, HP.out.2]; rfl, by rw [HR.out.2]; exact fun j hj => absurd hj (Nat.not_lt_zero j), HZ.out, by rw [HR.out.2]; exact Nat.le_refl _, Nat.zero_le _⟩
  · have d1 : (paiE m k == 0) = false := beq_eq_false_iff_ne.2 hE
    have d2 : (paiE m k != 0) = true := by rw [bne, d1]; rfl
    have HR := hid (par_bad hE)
    unfold PartPost
    rw [HR.out.1, HR.out.2]
    clear hE HR
    generalize paiE m k = ev at *
    go_enter Try.func58, Try.ntmps58
    go_wp2_with fail
    refine HV.out.mono ?_; rintro e w1 ⟨rfl, hb1⟩
    have hz := HB.out.trans (hb1.mono HB.out.size)
    clear hb1
    go_wp2_with fail
    go_ret3
    exact ⟨none, 0, rfl, fun j hj => absurd hj (Nat.not_lt_zero j), hz, Nat.le_refl _, Nat.zero_le _⟩

set_option maxRecDepth 100000 in
set_option maxHeartbeats 2000000 in
theorem Same_any (m k : Mac) (a a2 : Option Addr) (cap cap2 : Nat) (b b2 : Option Addr) (dap dap2 : Nat) (W : World) (hM : MacAt W a cap a2 cap2 m) (hK : MacAt W b dap b2 dap2 k) :
    Calls Try.prog 56 #[.agg #[.int .i64 m.L, .slice a m.nx.length cap, .slice a2 m.ac.length cap2], .agg #[.int .i64 k.L, .slice b k.nx.length dap, .slice b2 k.ac.length dap2]] W fun e w' => e = .returned (.tuple #[.bool (samB m k), .int .i64 (paiE m k)]) ∧ Below W.heap.size W w' := by
  have hb0 : Below W.heap.size W ((W.alloc (.cells #[.int .i64 m.L, .slice a m.nx.length cap, .slice a2 m.ac.length cap2] 25)).alloc (.cells #[.int .i64 k.L, .slice b k.nx.length dap, .slice b2 k.ac.length dap2] 25)) := (below_alloc W _).alloc (by simp) _
  have HV := hid (Part_any m k a a2 cap cap2 b b2 dap dap2 ((W.alloc (.cells #[.int .i64 m.L, .slice a m.nx.length cap, .slice a2 m.ac.length cap2] 25)).alloc (.cells #[.int .i64 k.L, .slice b k.nx.length dap, .slice b2 k.ac.length dap2] 25)) (hM.below hb0) (hK.below hb0))
  have HB := hid hb0
  clear hM hK hb0
  by_cases hE : paiE m k = 0
  · have HS : Hid (samB m k = !parB m k) := hid (by unfold samB; rw [decide_eq_true hE, Bool.true_and])
    unfold PartPost at HV
    rw [hE] at HV ⊢
    generalize parB m k = pb at *
    go_enter Try.func56, Try.ntmps56
    go_wp2_with fail
    refine HV.out.mono ?_; rintro e w1 ⟨ax, cx, rfl, _, hb1, _, _⟩
    have hz := HB.out.trans (hb1.mono HB.out.size)
    clear hb1
    go_wp2_with fail
    go_ret2
    exact ⟨by rw [HS.out]; rfl, hz⟩
  · have d1 : (paiE m k == 0) = false := beq_eq_false_iff_ne.2 hE
    have HS : Hid (samB m k = false) := hid (by unfold samB; rw [decide_eq_false hE, Bool.false_and])
    unfold PartPost at HV
    clear hE
    generalize paiE m k = ev at *
    generalize parB m k = pb at *
    go_enter Try.func56, Try.ntmps56
    go_wp2_with fail
    refine HV.out.mono ?_; rintro e w1 ⟨ax, cx, rfl, _, hb1, _, _⟩
    have hz := HB.out.trans (hb1.mono HB.out.size)
    clear hb1
    go_wp2_with fail
    go_ret2
    exact ⟨by rw [HS.out]; rfl, hz⟩
end Go.Proofs.Ytmllbemjcfkmjaa
