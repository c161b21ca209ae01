/-
  WALKS: the program's coolings.
-/
import Derived.Test.YtkeolmipdoeljaaW2
import Derived.Test.YtkeolmipdoeljaaMem2
namespace Go.Proofs.Ytkeolmipdoeljaa
open Go.RowKit Heat

theorem pread_cool (a : HAct) (w : World) (h : a.kind = 2) :
    Calls Try.prog 81 #[actV a] w fun e w' => e = .returned (.iface 97 (.agg #[])) ∧ Below w.heap.size w w' := by
  obtain ⟨k, j, x⟩ := a
  subst h
  go_enter Try.func81, Try.ntmps81
  go_wp2
  go_ret
  exact ⟨rfl, (Below.refl _ _).alloc (Nat.le_refl _) _⟩
theorem pread_warm (a : HAct) (w : World) (h : a.kind ≠ 2) :
    Calls Try.prog 81 #[actV a] w fun e w' => e = .returned (.iface 95 (.int .i64 a.heat)) ∧ Below w.heap.size w w' := by
  obtain ⟨k, j, x⟩ := a
  have hk : (k == 2) = false := by simpa using h
  clear h
  go_enter Try.func81, Try.ntmps81
  go_wp2
  go_ret
  exact ⟨rfl, (Below.refl _ _).alloc (Nat.le_refl _) _⟩

theorem ta95 (v : Value) (W : World) : (Instr.typeAssert (.iface 95 v) 91 95 true).run Try.prog W = .ok (.tuple #[v, .bool true]) W := by
  simp [Instr.typeAssert, run_underlying Try.underlying95]
theorem ta95no (v : Value) (W : World) : (Instr.typeAssert (.iface 97 v) 91 95 true).run Try.prog W = .ok (.tuple #[.int .i64 0, .bool false]) W := by
  simp [Instr.typeAssert, run_underlying Try.underlying95, Try.zeroValue95]
theorem ta97 (v : Value) (W : World) : (Instr.typeAssert (.iface 97 v) 91 97 true).run Try.prog W = .ok (.tuple #[v, .bool true]) W := by
  simp [Instr.typeAssert, run_underlying Try.underlying97]

set_option maxRecDepth 100000 in
set_option maxHeartbeats 2000000 in
theorem pinsert (n : Nat) (A : Option Addr) (k c : Nat) (limit : Int) (l : List HAct) (w : World) (hn : n ≤ 1000) (hl : l.length ≤ 1000) (hv : areActs n l = true) (B : Nat) (hB : B ≤ w.heap.size) (hr : Rd w B 3 A k (actCells l)) :
    Calls Try.prog 65 #[.int .i64 n, .slice A k c, .int .i64 limit] w fun e w' =>
      ∃ v, e = .returned v ∧ w'.ownsRow w.heap.size 48 3 v (putIn limit cold l).length (actCells (putIn limit cold l)) ∧ Below w.heap.size w w' := by
  obtain rfl := hr.act_len
  obtain ⟨i3, hi3, hz0, hz1, hz2⟩ := E34.info
  have hmk := fun W => run_make_row' (P := Try.prog) 34 3 (.int .i64 0) 8 Try.underlying34 (show (Try.prog.info? 3).map (fun i => (i.zero, i.size, i.bytes)) = some (some (.int .i64 0), 1, 8) by kernel_rfl) rfl .i64 .i64 n (by omega) (by omega) W
  have t1 := ta95
  have t2 := ta95no
  have t3 := ta97
  go_enter Try.func65, Try.ntmps65
  go_wp2
  go_loopw [8, 17] (fun v j wr => ∃ q : Nat, q ≤ l.length ∧ j = .int .i64 q ∧ wr.ownsRow (w.heap.size + 1) 48 3 v (putIn limit cold (l.take q)).length (actCells (putIn limit cold (l.take q))) ∧
      HeatsAt wr w.heap.size n (heats cold (putIn limit cold (l.take q))) ∧ Below w.heap.size w wr) (fun _ j _ => l.length - (intOf j).toNat)
  case atStart => exact ⟨0, Nat.zero_le _, rfl, World.ownsRow_nil _ _ _ _, HeatsAt.made w n, (Below.refl _ _).alloc (Nat.le_refl _) _⟩
  case round =>
    obtain ⟨q, hq, rfl, hown, hH, hb⟩ := hrel
    by_cases hlt : q < l.length
    · obtain ⟨b, off, rfl, hbb, h0, h1, h2⟩ := (hr.below' hb hB).act hlt
      have hact := areActs_iff.1 hv _ (List.getElem_mem hlt)
      have HS := Lib.hid ((congrArg (putIn limit cold) (take_snoc l q hlt)).trans (putIn_snoc limit (l.take q) l[q] cold))
      have hol : (putIn limit cold (l.take q)).length ≤ 2 * q := by
        rw [putIn_length]; have := cnt_le limit (l.take q) cold; have : (l.take q).length ≤ q := List.length_take_le _ _; omega
      have hbd := heats_cold_bd _ (mild_insert ((mild_of hv).take q) limit cold) l[q].ion
      generalize putIn limit cold (l.take q) = out at *
      generalize l[q] = a at *
      obtain ⟨ki, io, he⟩ := a
      simp only [isAct, decide_eq_true_eq] at hact
      obtain ⟨k0, k1, i0, i1, x0, x1, _⟩ := hact
      have hsz := hH.lt
      have hc := hH.cell i0 (by omega)
      have hH1 := hH.alloc (.cells #[.int .i64 ki, .int .i64 io, .int .i64 he] 48)
      have hbox := blk_new wr 48 #[.int .i64 ki, .int .i64 io, .int .i64 he]
      have hgt : ∀ k, u8.ownBlock = some k → w.heap.size + 1 ≤ k ∧ k < wr.heap.size := hown.lt
      have hown1 := hown.alloc (.cells #[.int .i64 ki, .int .i64 io, .int .i64 he] 48)
      dsimp only at *
      generalize hX : heats cold out io = hx at *
      have HX := Lib.hid hX
      clear hX
      by_cases c1 : ki = 1
      · subst c1
        by_cases c2 : limit < hx
        · have HG := Lib.hid hgt
          have HB := Lib.hid hbox
          clear hgt hbox hown hH
          go_wp2_with (at_builtin; (refine app1 rfl (.tmp 33) (.tmp 37) 22 rfl 48 _ 3 24 E22 (w.heap.size + 1) _ _ _ _ rfl hown1 _ rfl ?_ ?_ ?_ ?_ ?_ ?_); simp; rfl; rfl; omega; (simp; omega); intro v2 w2 hown2 hgrow; have b2 := blk_grown HB.out hgrow (fun e => absurd (HG.out _ e.symm).2 (by omega)); have e0 : w2.cell? ⟨wr.heap.size, 0, none⟩ = some (.int .i64 1) := blk_cell b2 0; have e1 : w2.cell? ⟨wr.heap.size, 1, none⟩ = some (.int .i64 io) := blk_cell b2 1; have e2 : w2.cell? ⟨wr.heap.size, 2, none⟩ = some (.int .i64 he) := blk_cell b2 2; have hH2 := hH1.grown hgrow (fun e => absurd (HG.out _ e.symm).1 (by omega)); have c3 := hH2.cell i0 (by omega); have f3 := hH2.frozen io.toNat; have s2 := hgrow.size; have B2 := Lib.hid b2; clear b2)
          refine (pread_warm ⟨1, io, he⟩ _ (show (1 : Int) ≠ 2 by decide)).mono ?_
          rintro e w3 ⟨rfl, hb3⟩
          simp only [World.size_setCell] at hb3
          simp only [World.size_alloc] at s2
          have s3 := hb3.size
          simp only [World.size_setCell] at s3
          have hH3 := (hH2.set i0 (by omega) 0).below hb3 (by omega)
          have c4 : w3.cell? ⟨w.heap.size, io.toNat, none⟩ = some (.int .i64 0) := by have := hH3.cell i0 (by omega); simpa using this
          have f4 := hH3.frozen io.toNat
          have b3 := blk_below (blk_far B2.out (p := ⟨w.heap.size, io.toNat, none⟩) (by simp; omega) (.int .i64 0)) hb3 (by omega)
          have e3 : w3.cell? ⟨wr.heap.size, 0, none⟩ = some (.int .i64 1) := blk_cell b3 0
          have e4 : w3.cell? ⟨wr.heap.size, 1, none⟩ = some (.int .i64 io) := blk_cell b3 1
          have e5 : w3.cell? ⟨wr.heap.size, 2, none⟩ = some (.int .i64 he) := blk_cell b3 2
          have hown3 := own_keep hown2 (fun g hg => (hb3.block g (hown2.lt g hg).2).trans (Below.heap_setCell w2 ⟨w.heap.size, io.toNat, none⟩ (.int .i64 0) g (by have := (hown2.lt g hg).1; simp; omega)))
          have hown4 := own_keep hown3 (fun g hg => Below.heap_setCell w3 ⟨w.heap.size, io.toNat, none⟩ (.int .i64 he) g (by have := (hown3.lt g hg).1; simp; omega))
          have hH4 := hH3.set i0 (by omega) he
          clear b3 B2 e0 e1 e2 c3 f3 hH1 hc h0 h1 h2
          go_wp2_with (at_builtin; go_must (refine app1 rfl (.tmp 63) (.tmp 65) 22 rfl 48 _ 3 24 E22 (w.heap.size + 1) _ _ _ _ rfl hown4 _ rfl ?_ ?_ ?_ ?_ ?_ ?_); simp; rfl; rfl; omega; (simp; omega); intro v5 w5 hown5 hgrow5)
          have HE : putIn limit cold (l.take (q + 1)) = out ++ [cool io] ++ [⟨1, io, he⟩] := by rw [HS.out, if_pos ⟨trivial, c2⟩]; simp
          have s5 := hgrow5.size
          simp only [World.size_setCell] at s5
          go_roundw
          case rel =>
            refine ⟨q + 1, by omega, by go_num, ?_, ?_, ?_⟩
            · rw [HE, actCells_snoc, actCells_snoc, List.length_append, List.length_append]; exact hown5
            · rw [HE, heats_snoc, heats_snoc]
              exact (hH4.grown hgrow5 (fun e => by have := (hown2.lt _ e.symm).1; omega)).congr fun j _ => put_cool_warm _ ⟨1, io, he⟩ (show (1 : Int) ≠ 2 by decide) j
            · have B1 := below_own (hb.alloc hb.size _) (by simp; omega) hown1 (by omega) hgrow
              have B2 := ((B1.setCell (p := ⟨w.heap.size, io.toNat, none⟩) (Nat.le_refl _) (.int .i64 0)).trans (hb3.mono (by omega))).setCell (p := ⟨w.heap.size, io.toNat, none⟩) (Nat.le_refl _) (.int .i64 he)
              exact below_own B2 (by simp; omega) hown4 (by omega) hgrow5
          case measure => simp [intOf]; omega
        · have hd : decide (limit < hx) = false := by simpa using c2
          have HB := Lib.hid hbox
          have HG := Lib.hid hgt
          clear hbox hgt hown
          go_wp2_with fail
          refine (pread_warm ⟨1, io, he⟩ _ (show (1 : Int) ≠ 2 by decide)).mono ?_
          rintro e w3 ⟨rfl, hb3⟩
          simp only [World.size_alloc] at hb3
          have s3 := hb3.size
          simp only [World.size_alloc] at s3
          have hH3 := hH1.below hb3 (by omega)
          have c4 := hH3.cell i0 (by omega)
          rw [HX.out] at c4
          have f4 := hH3.frozen io.toNat
          have b3 := blk_below HB.out hb3 (by omega)
          have e3 : w3.cell? ⟨wr.heap.size, 0, none⟩ = some (.int .i64 1) := blk_cell b3 0
          have e4 : w3.cell? ⟨wr.heap.size, 1, none⟩ = some (.int .i64 io) := blk_cell b3 1
          have e5 : w3.cell? ⟨wr.heap.size, 2, none⟩ = some (.int .i64 he) := blk_cell b3 2
          have hown3 := own_keep hown1 (fun g hg => hb3.block g (by have := (HG.out g hg).2; omega))
          have hown4 := own_keep hown3 (fun g hg => Below.heap_setCell w3 ⟨w.heap.size, io.toNat, none⟩ (.int .i64 (hx + he)) g (by have := (HG.out g hg).1; simp; omega))
          have hH4 := hH3.set i0 (by omega) (hx + he)
          clear b3 hc h0 h1 h2
          go_wp2_with (at_builtin; go_must (refine app1 rfl (.tmp 63) (.tmp 65) 22 rfl 48 _ 3 24 E22 (w.heap.size + 1) _ _ _ _ rfl hown4 _ rfl ?_ ?_ ?_ ?_ ?_ ?_); simp; rfl; rfl; omega; (simp; omega); intro v5 w5 hown5 hgrow5)
          have HE : putIn limit cold (l.take (q + 1)) = out ++ [⟨1, io, he⟩] := by rw [HS.out, if_neg (fun h => absurd h.2 (by omega))]
          have s5 := hgrow5.size
          simp only [World.size_setCell] at s5
          go_roundw
          case rel =>
            refine ⟨q + 1, by omega, by go_num, ?_, ?_, ?_⟩
            · rw [HE, actCells_snoc, List.length_append]; exact hown5
            · rw [HE, heats_snoc]
              exact (hH4.grown hgrow5 (fun e => by have := (HG.out _ e.symm).1; omega)).congr fun j _ => by rw [← HX.out]; exact put_warm _ ⟨1, io, he⟩ (show (1 : Int) ≠ 2 by decide) j
            · have B1 := hb.alloc hb.size (.cells #[.int .i64 1, .int .i64 io, .int .i64 he] 48)
              have B2 := (B1.trans (hb3.mono (by omega))).setCell (p := ⟨w.heap.size, io.toNat, none⟩) (Nat.le_refl _) (.int .i64 (hx + he))
              exact below_own B2 (by simp; omega) hown4 (by omega) hgrow5
          case measure => simp [intOf]; omega
      · by_cases c3 : ki = 2
        · subst c3
          have hd : ((2 : Int) == 1) = false := by decide
          have HB := Lib.hid hbox
          have HG := Lib.hid hgt
          clear hbox hgt hown
          go_wp2_with fail
          refine (pread_cool ⟨2, io, he⟩ _ rfl).mono ?_
          rintro e w3 ⟨rfl, hb3⟩
          simp only [World.size_alloc] at hb3
          have s3 := hb3.size
          simp only [World.size_alloc] at s3
          have hH3 := hH1.below hb3 (by omega)
          have c4 := hH3.cell i0 (by omega)
          have f4 := hH3.frozen io.toNat
          have b3 := blk_below HB.out hb3 (by omega)
          have e3 : w3.cell? ⟨wr.heap.size, 0, none⟩ = some (.int .i64 2) := blk_cell b3 0
          have e4 : w3.cell? ⟨wr.heap.size, 1, none⟩ = some (.int .i64 io) := blk_cell b3 1
          have e5 : w3.cell? ⟨wr.heap.size, 2, none⟩ = some (.int .i64 he) := blk_cell b3 2
          have hown3 := own_keep hown1 (fun g hg => hb3.block g (by have := (HG.out g hg).2; omega))
          have q1 : wr.heap.size < w3.heap.size := by omega
          have q2 : w.heap.size < w3.heap.size := by omega
          have hown4 := (own_keep hown3 (fun g hg => Below.heap_setCell w3 ⟨w.heap.size, io.toNat, none⟩ (.int .i64 0) g (by have := (HG.out g hg).1; simp; omega))).alloc (.cells #[] 97)
          have hH4 := (hH3.set i0 (by omega) 0).alloc (.cells #[] 97)
          clear b3 hc h0 h1 h2
          go_wp2_with (at_builtin; go_must (refine app1 rfl (.tmp 63) (.tmp 65) 22 rfl 48 _ 3 24 E22 (w.heap.size + 1) _ _ _ _ rfl hown4 _ rfl ?_ ?_ ?_ ?_ ?_ ?_); simp; rfl; rfl; omega; (simp; omega); intro v5 w5 hown5 hgrow5)
          have HE : putIn limit cold (l.take (q + 1)) = out ++ [⟨2, io, he⟩] := by rw [HS.out, if_neg (fun h => absurd h.1 (by decide))]
          have s5 := hgrow5.size
          simp only [World.size_alloc, World.size_setCell] at s5
          go_roundw
          case rel =>
            refine ⟨q + 1, by omega, by go_num, ?_, ?_, ?_⟩
            · rw [HE, actCells_snoc, List.length_append]; exact hown5
            · rw [HE, heats_snoc]
              exact (hH4.grown hgrow5 (fun e => by have := (HG.out _ e.symm).1; omega)).congr fun j _ => put_cold _ ⟨2, io, he⟩ rfl j
            · have B1 := hb.alloc hb.size (.cells #[.int .i64 2, .int .i64 io, .int .i64 he] 48)
              have B2 := ((B1.trans (hb3.mono (by omega))).setCell (p := ⟨w.heap.size, io.toNat, none⟩) (Nat.le_refl _) (.int .i64 0)).alloc (by simp; omega) (.cells #[] 97)
              exact below_own B2 (by simp; omega) hown4 (by omega) hgrow5
          case measure => simp [intOf]; omega
        · have hd : (ki == 1) = false := by simpa using c1
          have HC1 := Lib.hid c1
          have HC3 := Lib.hid c3
          clear c1 c3
          have HB := Lib.hid hbox
          have HG := Lib.hid hgt
          clear hbox hgt hown
          go_wp2_with fail
          refine (pread_warm ⟨ki, io, he⟩ _ HC3.out).mono ?_
          rintro e w3 ⟨rfl, hb3⟩
          simp only [World.size_alloc] at hb3
          have s3 := hb3.size
          simp only [World.size_alloc] at s3
          have hH3 := hH1.below hb3 (by omega)
          have c4 := hH3.cell i0 (by omega)
          rw [HX.out] at c4
          have f4 := hH3.frozen io.toNat
          have b3 := blk_below HB.out hb3 (by omega)
          have e3 : w3.cell? ⟨wr.heap.size, 0, none⟩ = some (.int .i64 ki) := blk_cell b3 0
          have e4 : w3.cell? ⟨wr.heap.size, 1, none⟩ = some (.int .i64 io) := blk_cell b3 1
          have e5 : w3.cell? ⟨wr.heap.size, 2, none⟩ = some (.int .i64 he) := blk_cell b3 2
          have hown3 := own_keep hown1 (fun g hg => hb3.block g (by have := (HG.out g hg).2; omega))
          have hown4 := own_keep hown3 (fun g hg => Below.heap_setCell w3 ⟨w.heap.size, io.toNat, none⟩ (.int .i64 (hx + he)) g (by have := (HG.out g hg).1; simp; omega))
          have hH4 := hH3.set i0 (by omega) (hx + he)
          clear b3 hc h0 h1 h2
          go_wp2_with (at_builtin; go_must (refine app1 rfl (.tmp 63) (.tmp 65) 22 rfl 48 _ 3 24 E22 (w.heap.size + 1) _ _ _ _ rfl hown4 _ rfl ?_ ?_ ?_ ?_ ?_ ?_); simp; rfl; rfl; omega; (simp; omega); intro v5 w5 hown5 hgrow5)
          have HE : putIn limit cold (l.take (q + 1)) = out ++ [⟨ki, io, he⟩] := by rw [HS.out, if_neg (fun h => HC1.out h.1)]
          have s5 := hgrow5.size
          simp only [World.size_setCell] at s5
          go_roundw
          case rel =>
            refine ⟨q + 1, by omega, by go_num, ?_, ?_, ?_⟩
            · rw [HE, actCells_snoc, List.length_append]; exact hown5
            · rw [HE, heats_snoc]
              exact (hH4.grown hgrow5 (fun e => by have := (HG.out _ e.symm).1; omega)).congr fun j _ => by rw [← HX.out]; exact put_warm _ ⟨ki, io, he⟩ HC3.out j
            · have B1 := hb.alloc hb.size (.cells #[.int .i64 ki, .int .i64 io, .int .i64 he] 48)
              have B2 := (B1.trans (hb3.mono (by omega))).setCell (p := ⟨w.heap.size, io.toNat, none⟩) (Nat.le_refl _) (.int .i64 (hx + he))
              exact below_own B2 (by simp; omega) hown4 (by omega) hgrow5
          case measure => simp [intOf]; omega
    · obtain rfl : q = l.length := by omega
      rw [List.take_length] at hown
      go_wp2
      go_ret
      exact ⟨_, rfl, own_base hown (Nat.le_succ _), hb⟩
end Go.Proofs.Ytkeolmipdoeljaa
