/-
  WALK: Plan.
-/
import Derived.Test.YtlhbmfaoldajdaaW19
import Derived.Test.YtlhbmfaoldajdaaP6
namespace Go.Proofs.Ytlhbmfaoldajdaa
open Go.RowKit Go.Maps

/-- What holds on the way back: the step in hand, the moves so far. -/
def PInv (Z : Int) (L : List (Int × Int)) (s t : List Int) (T : List Nd) (is : Bool) (far a0 a1 a2 a3 m1 m2 d : Int) (acc : List (Int × Int)) : Prop :=
  (is = true → ∃ x ∈ T, x.k = [a0, a1, a2, a3] ∧ x.m = (m1, m2) ∧ x.d = d ∧ Run Z L x.p acc.reverse t ∧ x.d + acc.length = far) ∧ (is = false → d = 0 ∧ acc = [])
def farAt (w : World) (b : Nat) : Nat := match w.cell? ⟨b, 6, none⟩ with
  | some (.int _ d) => d.toNat
  | _ => 0

theorem PInv.step {Z : Int} {L : List (Int × Int)} {s t : List Int} {T : List Nd} {is : Bool} {far a0 a1 a2 a3 m1 m2 d : Int} {acc : List (Int × Int)} (h : PInv Z L s t T is far a0 a1 a2 a3 m1 m2 d acc) (hp : Par Z L s T) (hd : 0 < d) :
    is = true ∧ ∃ y ∈ T, key4 y.p = [a0, a1, a2, a3] ∧ y.d + 1 = d ∧ ∀ b0 b1 b2 b3, y.k = [b0, b1, b2, b3] → PInv Z L s t T is far b0 b1 b2 b3 y.m.1 y.m.2 y.d (acc ++ [(m1, m2)]) := by
  cases is with
  | false => have := (h.2 rfl).1; omega
  | true =>
    obtain ⟨x, hx, hk, hm, hxd, hr, hf⟩ := h.1 rfl
    rcases hp x hx with ⟨h0, _⟩ | ⟨y, hy, e1, e2, e3, e4⟩
    · omega
    · refine ⟨rfl, y, hy, by rw [← e1]; exact hk, by omega, fun b0 b1 b2 b3 hb => ⟨fun _ => ⟨y, hy, hb, rfl, rfl, ?_, ?_⟩, fun h => by cases h⟩⟩
      · rw [List.reverse_append]
        rw [← hm]
        exact .cons e3 (by rw [← e4]; exact hr)
      · rw [List.length_append, List.length_singleton]; push_cast; omega
theorem PInv.stop {Z : Int} {L : List (Int × Int)} {s t : List Int} {T : List Nd} {is : Bool} {far a0 a1 a2 a3 m1 m2 d : Int} {acc : List (Int × Int)} {n : Nat} (h : PInv Z L s t T is far a0 a1 a2 a3 m1 m2 d acc) (hp : Par Z L s T) (hT : Tidy Z n T) (hd : ¬ 0 < d) (hi : is = true) : Run Z L s acc.reverse t ∧ (acc.reverse.length : Int) = far := by
  obtain ⟨x, hx, hk, hm, hxd, hr, hf⟩ := h.1 hi
  have h0 := (hT.2 x hx).2.2
  rcases hp x hx with ⟨h1, h2⟩ | ⟨y, hy, e1, e2, e3, e4⟩
  · rw [h2] at hr; exact ⟨hr, by rw [List.length_reverse]; omega⟩
  · have := (hT.2 y hy).2.2; omega
theorem PInv.small {Z : Int} {L : List (Int × Int)} {s t : List Int} {T : List Nd} {is : Bool} {far a0 a1 a2 a3 m1 m2 d : Int} {acc : List (Int × Int)} {n : Nat} (h : PInv Z L s t T is far a0 a1 a2 a3 m1 m2 d acc) (hT : Tidy Z n T) (hf : far ≤ 1296) : 0 ≤ d ∧ d ≤ 1296 ∧ acc.length ≤ 1296 := by
  cases is with
  | false => have := h.2 rfl; rw [this.2]; simp; omega
  | true =>
    obtain ⟨x, hx, hk, hm, hxd, hr, hf⟩ := h.1 rfl
    have h0 := (hT.2 x hx).2.2
    omega
theorem PInv.start {Z : Int} {L : List (Int × Int)} {s t : List Int} {T : List Nd} {a0 a1 a2 a3 m1 m2 d : Int} (hd : d = nodeD (nodeOf T t)) (h : ∀ x, nodeOf T t = some x → x.k = [a0, a1, a2, a3] ∧ x.m = (m1, m2)) : PInv Z L s t T (nodeOf T t).isSome d a0 a1 a2 a3 m1 m2 d [] := by
  cases hf : nodeOf T t with
  | none => rw [hf] at hd; exact ⟨fun h => absurd h (by simp), fun _ => ⟨hd, rfl⟩⟩
  | some x =>
    rw [hf] at hd
    obtain ⟨hx, hp⟩ := nodeOf_some hf
    obtain ⟨h1, h2⟩ := h x hf
    exact ⟨fun _ => ⟨x, hx, h1, h2, hd.symm, by rw [hp]; exact .nil t, by simp; exact hd.symm⟩, fun h => by cases h⟩
set_option maxRecDepth 100000 in
set_option maxHeartbeats 4000000 in
theorem pPlan (Z : Int) (A A' A'' : Option Addr) (k c k' c' k'' c'' : Nat) (L : List (Int × Int)) (s t : List Int) (w : World) (hl : L.length ≤ 1000) (hc : k ≤ c) (hl' : s.length ≤ 1000) (hc' : k' ≤ c') (hl'' : t.length ≤ 1000) (hc'' : k'' ≤ c'') (B : Nat) (hB : B ≤ w.heap.size) (hr : Rd w B 2 A k (prs L)) (hr' : Rd w B 1 A' k' (ints s)) (hr'' : Rd w B 1 A'' k'' (ints t)) :
    Calls Try.prog 12 #[.agg #[.int .i64 Z, .slice A k c], .slice A' k' c', .slice A'' k'' c''] w fun e w' => ∃ u way, e = .returned (.tuple #[u, .bool (farB Z L s t), .int .i64 (pairZ Z L s t)]) ∧ w'.ownsRow w.heap.size 57 2 u way.length (prs way) ∧ (farB Z L s t = true → Run Z L s way t ∧ (way.length : Int) = farN Z L s t) ∧ Below w.heap.size w w' := by
  obtain rfl := hr'.int_len
  obtain rfl := hr''.int_len
  have HB1 := Lib.hid ((Below.refl w.heap.size w).alloc (Nat.le_refl _) (.cells #[.int .i64 Z, .slice A k c] 24))
  have HX := Lib.hid (blk_new w 24 #[.int .i64 Z, .slice A k c])
  have hr := (hr.more hB)
  have hr' := (hr'.more hB)
  have hr'' := (hr''.more hB)
  have s1 : (w.alloc (.cells #[.int .i64 Z, .slice A k c] 24)).heap.size = w.heap.size + 1 := by simp
  have x0 : (w.alloc (.cells #[.int .i64 Z, .slice A k c] 24)).cell? ⟨w.heap.size, 0, none⟩ = some (.int .i64 Z) := blk_cell HX.out 0
  have x1 : (w.alloc (.cells #[.int .i64 Z, .slice A k c] 24)).cell? ⟨w.heap.size, 1, none⟩ = some (.slice A k c) := blk_cell HX.out 1
  have HP := Lib.hid (ppair Z A A' A'' k c s.length c' t.length c'' L s t (w.alloc (.cells #[.int .i64 Z, .slice A k c] 24)) hl hc hl' hc' hl'' hc'' w.heap.size (by simp) (hr.below HB1.out) (hr'.below HB1.out) (hr''.below HB1.out))
  by_cases h : pairZ Z L s t = 0
  · have HE := Lib.hid (show farN Z L s t = nodeD (nodeOf (bfsL Z L s) t) by rw [farN, if_pos h])
    have HE2 := Lib.hid (show farB Z L s t = (nodeOf (bfsL Z L s) t).isSome by rw [farB, if_pos h])
    obtain ⟨p1, p2, p3⟩ := pairZ_ok h
    have HT := Lib.hid (bfsL_tidy p1)
    obtain ⟨z1, z2, z3, z4⟩ := PlOk.of_place p1
    have HPL := Lib.hid z4
    have HPT := Lib.hid (show PlOk Z s.length t by have := PlOk.of p2; rw [← p3] at this; exact this)
    have ht4 : t.length ≤ 4 := by omega
    rw [h] at HP ⊢
    clear h z4 p1 p2 p3
    go_enter Try.func12, Try.ntmps12
    go_wp2_with fail
    refine HP.out.mono ?_
    rintro e w1 ⟨rfl, hb1⟩
    have y0 := (hb1.cell (p := ⟨w.heap.size, 0, none⟩) (by simp)).trans x0
    have y1 := (hb1.cell (p := ⟨w.heap.size, 1, none⟩) (by simp)).trans x1
    have HB2 := Lib.hid (HB1.out.trans (hb1.mono (by omega)))
    have s2 := HB2.out.size
    clear hb1 x0 x1 HP
    go_wp2_with fail
    refine (preached Z A A' k c s.length c' L s w1 (by omega) z2 z3 hl HPL.out w.heap.size s2 (hr.below HB2.out) (hr'.below HB2.out)).mono ?_
    rintro e w2 ⟨b, rfl, hown, hb2⟩
    have HB3 := Lib.hid (HB2.out.trans (hb2.mono s2))
    have s3 := HB3.out.size
    have HO := Lib.hid hown
    clear hb2 hown y0 y1
    go_wp2_with fail
    refine (pkeyOf A'' t.length c'' t w2 ht4 w.heap.size s3 (hr''.below HB3.out)).mono ?_
    rintro e w3 ⟨rfl, hb3⟩
    obtain ⟨a0, a1, a2, a3, m1, m2, d, hlk, hm⟩ := map_look_ok (ownsMap_below HO.out hb3) HT.out z2 z3 HPT.out
    have HD := Lib.hid (HE.out.trans hm.1.symm)
    have HDP := Lib.hid (fun i y h => deep_bfs Z L s 1296 i y h)
    have HPR := Lib.hid (par_bfs Z L s 1296)
    have HM := Lib.hid (PInv.start (Z := Z) (L := L) (s := s) hm.1 hm.2)
    rw [← HE2.out] at hlk
    have HB4 := Lib.hid (HB3.out.trans (hb3.mono s3))
    have HO4 := Lib.hid (ownsMap_below HO.out hb3)
    have HDN := Lib.hid hm.1
    have HE2' := Lib.hid HE2.out
    clear hb3 hm HE HE2 HO
    have HB5 := Lib.hid (HB4.out.alloc HB4.out.size (.cells #[.int .i64 a0, .int .i64 a1, .int .i64 a2, .int .i64 a3, .int .i64 m1, .int .i64 m2, .int .i64 d] 63))
    have HBX := Lib.hid (blk_new w3 63 #[.int .i64 a0, .int .i64 a1, .int .i64 a2, .int .i64 a3, .int .i64 m1, .int .i64 m2, .int .i64 d])
    have hbw : b < w3.heap.size := HO4.out.lt
    have s4 := HB4.out.size
    have HO5 := Lib.hid (HO4.out.alloc (.cells #[.int .i64 a0, .int .i64 a1, .int .i64 a2, .int .i64 a3, .int .i64 m1, .int .i64 m2, .int .i64 d] 63))
    have hfar : d ≤ 1296 := by
      have h1 := HM.out
      have h2 : nodeD (nodeOf (bfsL Z L s) t) ≤ 1296 := by
        cases hf : nodeOf (bfsL Z L s) t with
        | none => exact (by decide : (0 : Int) ≤ 1296)
        | some x =>
          obtain ⟨hx, _⟩ := nodeOf_some hf
          obtain ⟨j, hj, hje⟩ := List.getElem_of_mem hx
          have h3 := HDP.out j x (by rw [← hje]; exact List.getElem?_eq_getElem hj)
          have h4 := HT.out.len z2 z3
          show x.d ≤ 1296
          omega
      rw [HDN.out]; exact h2
    obtain ⟨T, hTT⟩ : ∃ T, T = bfsL Z L s := ⟨_, rfl⟩
    have HPR : Hid (Par Z L s T) := by rw [hTT]; exact HPR
    rw [← hTT] at HT HM HO5
    rw [show (nodeOf T t).isSome = farB Z L s t by rw [hTT]; exact HE2'.out.symm] at HM
    clear hTT HDP HDN HO4
    obtain ⟨is, his⟩ : ∃ is, is = farB Z L s t := ⟨_, rfl⟩
    have HIS := Lib.hid his
    rw [← his] at HM hlk
    have HFAR := Lib.hid HD.out
    clear his HD
    go_wp2
    go_loopw [13] (fun u wr => ∃ (a0 a1 a2 a3 m1 m2 d' : Int) (acc : List (Int × Int)), PInv Z L s t T is d a0 a1 a2 a3 m1 m2 d' acc ∧ wr.heap[w3.heap.size]? = some (.cells #[.int .i64 a0, .int .i64 a1, .int .i64 a2, .int .i64 a3, .int .i64 m1, .int .i64 m2, .int .i64 d'] 63 (0, 0)) ∧ wr.ownsMap Try.prog 61 stepElem b T.length (mapN T) ∧ wr.ownsRow (w3.heap.size + 1) 57 2 u acc.length (prs acc) ∧ Below w.heap.size w wr) (fun _ wr => farAt wr w3.heap.size)
    case atStart => exact ⟨a0, a1, a2, a3, m1, m2, d, [], HM.out, HBX.out, HO5.out, World.ownsRow_nil .., HB5.out⟩
    case round =>
      clear HM HBX HO5 HB5 hlk
      obtain ⟨a0, a1, a2, a3, m1, m2, d', acc, hpi, hbx, hmp, hown, hb⟩ := hrel
      have sb := hb.size
      obtain ⟨dz0, dz1, hal⟩ := hpi.small HT.out hfar
      have e4 : wr.cell? ⟨w3.heap.size, 4, none⟩ = some (.int .i64 m1) := blk_cell hbx 4
      have e5 : wr.cell? ⟨w3.heap.size, 5, none⟩ = some (.int .i64 m2) := blk_cell hbx 5
      have e6 : wr.cell? ⟨w3.heap.size, 6, none⟩ = some (.int .i64 d') := blk_cell hbx 6
      have lbx := blk_lt hbx
      have HF0 := Lib.hid (show farAt wr w3.heap.size = d'.toNat by unfold farAt; rw [e6])
      obtain ⟨Au, cu, rfl, _, _⟩ := own_cap hown
      by_cases hd0 : 0 < d'
      · obtain ⟨hi, y, hy, hk, hyd, hnx⟩ := hpi.step HPR.out hd0
        obtain ⟨b0, b1, b2, b3, hb4⟩ := list4 (HT.out.2 y hy).2.1
        have HNX := Lib.hid (hnx b0 b1 b2 b3 hb4)
        have HKV := Lib.hid (show keyV y.p = .agg #[.int .i64 a0, .int .i64 a1, .int .i64 a2, .int .i64 a3] by rw [keyV, hk]; rfl)
        have HLK := Lib.hid (fun (W : World) (h : W.ownsMap Try.prog 61 stepElem b T.length (mapN T)) => show (Instr.lookup 48 (.map (some b)) (.agg #[.int .i64 a0, .int .i64 a1, .int .i64 a2, .int .i64 a3]) false).run Try.prog W = .ok (.agg #[.int .i64 b0, .int .i64 b1, .int .i64 b2, .int .i64 b3, .int .i64 y.m.1, .int .i64 y.m.2, .int .i64 y.d]) W from by
          have := map_look false h HT.out z2 z3 hy
          rw [HKV.out, stepZ, hb4] at this
          exact this)
        have HYD := Lib.hid (show y.d + 1 = d' ∧ 0 ≤ y.d from ⟨hyd, (HT.out.2 y hy).2.2⟩)
        obtain ⟨n1, hn1⟩ : ∃ n1, n1 = y.m.1 := ⟨_, rfl⟩
        obtain ⟨n2, hn2⟩ : ∃ n2, n2 = y.m.2 := ⟨_, rfl⟩
        obtain ⟨nd, hnd⟩ : ∃ nd, nd = y.d := ⟨_, rfl⟩
        rw [← hn1, ← hn2, ← hnd] at HLK HNX
        rw [← hnd] at HYD
        clear hn1 hn2 hnd hnx hk hb4 hy hyd hi HKV hpi
        have HUB := Lib.hid (fun g h => (hown.lt g h))
        have HR := Lib.hid (And.intro hbx (And.intro hmp (And.intro hown hb)))
        clear hbx hmp hb
        go_wp2_with (at_builtin; go_must (refine app1x rfl (.tmp 34) (.tmp 37) 28 rfl 57 _ 2 16 E28 (w3.heap.size + 1) _ _ _ _ rfl hown _ rfl ?_ ?_ ?_ ?_ ?_ ?_); rfl; rfl; rfl; omega; omega; intro v5 w5 hown5 hg5 hx5; have bx5 := blk_grown HR.out.1 hg5 (fun e => by have := (HUB.out _ e.symm).1; omega); have lk5 := HLK.out w5 (HR.out.2.1.kept hg5 (fun e => by have := (HUB.out _ e.symm).1; omega)); have q0 : w5.cell? ⟨w3.heap.size, 0, none⟩ = some (.int .i64 a0) := blk_cell bx5 0; have q1 : w5.cell? ⟨w3.heap.size, 1, none⟩ = some (.int .i64 a1) := blk_cell bx5 1; have q2 : w5.cell? ⟨w3.heap.size, 2, none⟩ = some (.int .i64 a2) := blk_cell bx5 2; have q3 : w5.cell? ⟨w3.heap.size, 3, none⟩ = some (.int .i64 a3) := blk_cell bx5 3; have q4 : w5.cell? ⟨w3.heap.size, 4, none⟩ = some (.int .i64 m1) := blk_cell bx5 4; have q5 : w5.cell? ⟨w3.heap.size, 5, none⟩ = some (.int .i64 m2) := blk_cell bx5 5; have q6 : w5.cell? ⟨w3.heap.size, 6, none⟩ = some (.int .i64 d') := blk_cell bx5 6; have f0 := blk_frozen bx5 0; have f1 := blk_frozen bx5 1; have f2 := blk_frozen bx5 2; have f3 := blk_frozen bx5 3; have f4 := blk_frozen bx5 4; have f5 := blk_frozen bx5 5; have f6 := blk_frozen bx5 6)
        have bx6 := blk_set (blk_set (blk_set (blk_set (blk_set (blk_set (blk_set bx5 0 (.int .i64 b0)) 1 (.int .i64 b1)) 2 (.int .i64 b2)) 3 (.int .i64 b3)) 4 (.int .i64 n1)) 5 (.int .i64 n2)) 6 (.int .i64 nd)
        have hfar' : ∀ g, g ≠ w3.heap.size → (((((((w5.setCell ⟨w3.heap.size, 0, none⟩ (.int .i64 b0)).setCell ⟨w3.heap.size, 1, none⟩ (.int .i64 b1)).setCell ⟨w3.heap.size, 2, none⟩ (.int .i64 b2)).setCell ⟨w3.heap.size, 3, none⟩ (.int .i64 b3)).setCell ⟨w3.heap.size, 4, none⟩ (.int .i64 n1)).setCell ⟨w3.heap.size, 5, none⟩ (.int .i64 n2)).setCell ⟨w3.heap.size, 6, none⟩ (.int .i64 nd)).heap[g]? = w5.heap[g]? := fun g hg => by
          repeat (rw [Below.heap_setCell _ _ _ _ (by exact hg)])
        have hmp6 := ownsMap_keep (w' := (((((((w5.setCell ⟨w3.heap.size, 0, none⟩ (.int .i64 b0)).setCell ⟨w3.heap.size, 1, none⟩ (.int .i64 b1)).setCell ⟨w3.heap.size, 2, none⟩ (.int .i64 b2)).setCell ⟨w3.heap.size, 3, none⟩ (.int .i64 b3)).setCell ⟨w3.heap.size, 4, none⟩ (.int .i64 n1)).setCell ⟨w3.heap.size, 5, none⟩ (.int .i64 n2)).setCell ⟨w3.heap.size, 6, none⟩ (.int .i64 nd))) (HR.out.2.1.kept hg5 (fun e => by have := (HUB.out _ e.symm).1; omega)) (hfar' b (by omega))
        have hown6 := own_keep (w' := (((((((w5.setCell ⟨w3.heap.size, 0, none⟩ (.int .i64 b0)).setCell ⟨w3.heap.size, 1, none⟩ (.int .i64 b1)).setCell ⟨w3.heap.size, 2, none⟩ (.int .i64 b2)).setCell ⟨w3.heap.size, 3, none⟩ (.int .i64 b3)).setCell ⟨w3.heap.size, 4, none⟩ (.int .i64 n1)).setCell ⟨w3.heap.size, 5, none⟩ (.int .i64 n2)).setCell ⟨w3.heap.size, 6, none⟩ (.int .i64 nd))) hown5 (fun g hg => hfar' g (by have := (hown5.lt g hg).1; omega))
        have hb6 : Below w.heap.size w w5 := HR.out.2.2.2.grown hg5 (by omega) (fun g h => by have := (HUB.out g h).1; omega)
        refine ⟨⟨b0, b1, b2, b3, n1, n2, nd, acc ++ [(m1, m2)], HNX.out, bx6, hmp6, ?_, ?_⟩, ?_⟩
        · rw [List.length_append, prs_append]; exact hown6
        · exact ((((((hb6.setCell (p := ⟨w3.heap.size, 0, none⟩) s4 _).setCell (p := ⟨w3.heap.size, 1, none⟩) s4 _).setCell (p := ⟨w3.heap.size, 2, none⟩) s4 _).setCell (p := ⟨w3.heap.size, 3, none⟩) s4 _).setCell (p := ⟨w3.heap.size, 4, none⟩) s4 _).setCell (p := ⟨w3.heap.size, 5, none⟩) s4 _).setCell (p := ⟨w3.heap.size, 6, none⟩) s4 _
        · rw [HF0.out]
          have h6 := blk_cell bx6 6
          unfold farAt
          rw [h6]
          have := HYD.out
          show nd.toNat < d'.toNat
          omega
      · have HSTP := Lib.hid (fun (h : is = true) => hpi.stop HPR.out HT.out hd0 h)
        have HR := Lib.hid (And.intro hown hb)
        clear hbx hmp hown hb hpi
        go_wp2_with fail
        refine (pReverse Au cu acc wr (by omega) (w3.heap.size + 1) (by omega) HR.out.1).mono ?_
        rintro e w5 ⟨⟨v, rfl⟩, hown5, hb5⟩
        have HF := Lib.hid (And.intro (own_base hown5 (show w.heap.size ≤ w3.heap.size + 1 by omega)) (HR.out.2.trans (hb5.mono (by omega))))
        clear hown5 hb5
        go_wp2
        refine bodyPost_ret (results_tmp3 rfl _ _ _) rfl ?_
        refine ⟨_, acc.reverse, ret_three rfl (by rw [← HIS.out]; rfl) rfl, by rw [List.length_reverse]; exact HF.out.1, fun h => ?_, HF.out.2⟩
        have := HSTP.out (HIS.out.trans h)
        exact ⟨this.1, this.2.trans HFAR.out.symm⟩
  · have HE := Lib.hid (show farN Z L s t = 0 by rw [farN, if_neg h])
    have HE2 := Lib.hid (show farB Z L s t = false by rw [farB, if_neg h])
    have hd : (pairZ Z L s t != 0) = true := by simpa using h
    clear h
    generalize pairZ Z L s t = y at *
    go_enter Try.func12, Try.ntmps12
    go_wp2_with fail
    refine HP.out.mono ?_
    rintro e w1 ⟨rfl, hb1⟩
    go_wp2
    refine bodyPost_ret (results_tmp3 rfl _ _ _) rfl ?_
    exact ⟨_, [], ret_three rfl (by rw [HE2.out]; rfl) rfl, World.ownsRow_nil .., ⟨fun h => (by rw [HE2.out] at h; cases h), HB1.out.trans (hb1.mono (by omega))⟩⟩
end Go.Proofs.Ytlhbmfaoldajdaa
