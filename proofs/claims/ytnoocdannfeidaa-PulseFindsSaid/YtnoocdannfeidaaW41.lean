/-
  WALK: the closures of Areas and Find; Find.
-/
import Derived.Test.YtnoocdannfeidaaW40
import Derived.Test.YtnoocdannfeidaaW24
namespace Go.Proofs.Ytnoocdannfeidaa
open Go.RowKit Pulse

def hd0 (ms : List Int) : Nat := (ms.getD 0 0).toNat
/-- All blocks below base but b lie as they lay. -/
def Bar (b base : Nat) (h : Nat) (_ : Obj) : Prop := h ≠ b ∧ h < base
theorem fix_bar {b base : Nat} {A B : World} {row : Option Nat} (hg : A.grownBy B row) (hr : ∀ g, row = some g → base ≤ g) : Fix (Bar b base) A B :=
  Fix.grown hg fun g _ h _ hk => by have := hr g h; have := hk.2; omega

set_option maxRecDepth 100000 in
set_option maxHeartbeats 1000000 in
theorem areasFn (A : Option Addr) (c : Nat) (p ms l : List Int) (A' : Option Addr) (k' c' b3 b9 base : Nat) (v : Value) (w : World) (hp : p.length ≤ 6) (hF : Forces 2 p) (hms : ∀ m ∈ ms, 0 ≤ m ∧ m ≤ 3) (hne : 0 < ms.length)
    (hr : Rd w w.heap.size 1 A p.length (ints p)) (hr' : Rd w w.heap.size 1 A' k' (ints ms)) (h3 : w.heap[b3]? = some (.cells #[.slice A' k' c'] 22 (0, 0))) (h9 : w.heap[b9]? = some (.cells #[v] 22 (0, 0)))
    (hown : w.ownsRow base 3 1 v l.length (ints l)) (hl : l.length ≤ 90000) (hb9 : b9 < base) (hbase : base ≤ w.heap.size) :
    Calls Try.prog 88 #[.slice A p.length c, .pointer (some ⟨b3, 0, none⟩), .pointer (some ⟨b9, 0, none⟩)] w fun e w' => e = .returned (.bool true) ∧ ∃ v', w'.heap[b9]? = some (.cells #[v'] 22 (0, 0)) ∧
      w'.ownsRow base 3 1 v' (if hasB l (areaL (hd0 ms) p) then l else l ++ [areaL (hd0 ms) p]).length (ints (if hasB l (areaL (hd0 ms) p) then l else l ++ [areaL (hd0 ms) p])) ∧ Fix (Bar b9 base) w w' := by
  obtain ⟨Av, cv, rfl, _, _⟩ := own_cap hown
  obtain ⟨b', off', rfl, hbb', hm0⟩ := hr'.int hne
  have hk' : 0 < k' := by rw [hr'.int_len]; exact hne
  rw [Nat.add_zero] at hm0
  have hin := hms ms[0] (List.getElem_mem hne)
  have hhd : hd0 ms = ms[0].toNat := by simp [hd0, hne]
  have hbd := area_bd1000 (m := hd0 ms) hp hF
  have HA := Lib.hid (pArea p ms[0] (by omega) (fun f hf => by have := hF f hf; omega) hin.1 hin.2 A c w w.heap.size (Nat.le_refl _) hr)
  rw [← hhd] at HA
  have l3 := blk_lt h3
  have l9 := blk_lt h9
  have c3 : w.cell? ⟨b3, 0, none⟩ = some (.slice (some ⟨b', off', none⟩) k' c') := blk_cell h3 0
  have HH := Lib.hid (And.intro h9 hown)
  obtain ⟨a, ha⟩ : ∃ a, a = areaL (hd0 ms) p := ⟨_, rfl⟩
  rw [← ha] at HA hbd ⊢
  obtain ⟨m0, hm⟩ : ∃ m0, m0 = ms[0] := ⟨_, rfl⟩
  rw [← hm] at hm0 HA
  obtain ⟨l2, hl2⟩ : ∃ l2, l2 = if hasB l a then l else l ++ [a] := ⟨_, rfl⟩
  rw [← hl2]
  have HL2 := Lib.hid hl2
  clear ha hm h3 h9 hown hhd hin hl2
  go_enter Try.func88, Try.ntmps88
  go_wp2_with fail
  refine HA.out.mono ?_
  rintro e w1 ⟨rfl, hb1⟩
  have s1 := hb1.size
  have x9 := blk_below HH.out.1 hb1 l9
  have o9 := own_below HH.out.2 hb1
  have HC := Lib.hid (pContainsI Av l.length cv l a w1 (by omega) w1.heap.size (Nat.le_refl _) (Rd.of_own o9))
  have c9 : w1.cell? ⟨b9, 0, none⟩ = some (.slice Av l.length cv) := blk_cell x9 0
  have HX := Lib.hid (And.intro x9 (And.intro o9 hb1))
  clear x9 o9 hb1 HA
  cases hh : hasB l a with
  | true =>
    rw [hh] at HC HL2
    clear hh
    have HL3 := Lib.hid (show l2 = l from HL2.out)
    go_wp2_with fail
    refine HC.out.mono ?_
    rintro e w2 ⟨rfl, hb2⟩
    go_wp2
    go_ret
    exact ⟨rfl, .slice Av l.length cv, blk_below HX.out.1 hb2 (by omega), by rw [HL3.out]; exact own_below HX.out.2.1 hb2, (Fix.of_below HX.out.2.2 (Nat.le_refl _)).trans (Fix.of_below hb2 (Nat.le_refl _))⟩
  | false =>
    rw [hh] at HC HL2
    clear hh
    have HL3 := Lib.hid (show l2 = l ++ [a] from HL2.out)
    go_wp2_with fail
    refine HC.out.mono ?_
    rintro e w2 ⟨rfl, hb2⟩
    have s2 := hb2.size
    have y9 := blk_below HX.out.1 hb2 (by omega)
    have z9 := own_below HX.out.2.1 hb2
    have HF2 := Lib.hid (show Fix (Bar b9 base) w w2 from (Fix.of_below HX.out.2.2 (Nat.le_refl _)).trans (Fix.of_below hb2 (Nat.le_refl _)))
    have d9 : w2.cell? ⟨b9, 0, none⟩ = some (.slice Av l.length cv) := blk_cell y9 0
    have HOB := Lib.hid (fun g (hg : (Value.slice Av l.length cv).ownBlock = some g) => (own_obj z9 hg).1)
    have HNE := Lib.hid (show some b9 ≠ (Value.slice Av l.length cv).ownBlock from fun e => by have := (own_obj z9 e.symm).1; omega)
    have HY := Lib.hid y9
    clear hb2 y9 c9
    go_wp2_with (at_builtin; go_must (refine app1 rfl (.tmp 15) (.tmp 17) 22 rfl 3 _ 1 8 E22 base _ _ _ _ rfl z9 _ rfl ?_ ?_ ?_ ?_ ?_ ?_); rfl; rfl; rfl; omega; omega; intro v3 w3 hown3 hg3; obtain ⟨A3, c3', rfl, _, _⟩ := own_cap hown3; have x3 := blk_grown HY.out hg3 HNE.out; have e9 : w3.cell? ⟨b9, 0, none⟩ = some (.slice Av l.length cv) := blk_cell x3 0; have e8 := blk_frozen x3 0)
    go_ret
    refine ⟨rfl, .slice A3 (l.length + 1) c3', by simpa using blk_set x3 0 (.slice A3 (l.length + 1) c3'), ?_, HF2.out.trans ((fix_bar hg3 HOB.out).trans (Fix.setCell (p := ⟨b9, 0, none⟩) _ x3 (fun h => h.1 rfl)))⟩
    rw [HL3.out, List.length_append, ints_snoc]
    exact own_set_far hown3 (p := ⟨b9, 0, none⟩) hb9 _
end Go.Proofs.Ytnoocdannfeidaa
