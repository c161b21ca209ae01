/-
  WALKS: slices.Grow, slices.Concat at ints.
-/
import Derived.Lib.AppendZeros
import Derived.Test.YtlhbmfaoldajdaaW10
import Derived.Test.YtlhbmfaoldajdaaW10
namespace Go.Proofs.Ytlhbmfaoldajdaa
open Go.RowKit

theorem zeroCells_size (z : Array Value) (n : Nat) : (Builtin.zeroCells z n).size = n * z.size := by simp [Builtin.zeroCells]

theorem run_grow (n : Nat) (h : 0 < n) (hn : n ≤ 1000) (ty : TypeId) (w : World) : ∃ v w', (Builtin.append_ #[25, 3] ty #[.slice none 0 0, .int .i64 n]).run Try.prog w = .ok v w' ∧ ∃ gc, v = .slice (some ⟨w.heap.size, 0, none⟩) n gc ∧ w'.ownsRow w.heap.size 3 1 (.slice (some ⟨w.heap.size, 0, none⟩) 0 gc) 0 [] ∧ Below w.heap.size w w' := by
  obtain ⟨i, hi, hz0, hz1, hz2⟩ := E25.info
  have hap := Lib.run_append_nil_zeros w 25 3 ty 3 i _ .i64 .i64 Try.underlying25 Try.underlying3 hi hz0 n h (by omega) (by omega) (by rw [hz2]; omega)
  have hcap : n ≤ grownCap w n 0 3 := grownCap_ge w n 0 3
  have hmax := grownCap_le_maxLen w n 0 3 (by unfold maxLen; omega)
  refine ⟨_, _, hap, grownCap w n 0 3, rfl, ⟨by simp, .inr ⟨w.heap.size, grownCap w n 0 3, _, rfl, Nat.le_refl _, blk_new _ 3 _, Nat.zero_le _, hmax, ?_, by simp⟩⟩, ((Below.refl _ _).drew).alloc (Nat.le_refl _) _⟩
  rw [Array.size_append, zeroCells_size, zeroCells_size]
  show n * 1 + (grownCap w n 0 3 - n) * 1 = grownCap w n 0 3 * 1
  omega
section
variable {w : World} {ops : Array Oper} {rest : List Oper} {o : Oper} {a : Act} {Q : Exit → Act → World → Prop}
theorem grow0 (hgd : o.guard = none) (s x : Operand) (ho : o.op = .call { callee := .builtin .append, args := #[s, x], argTypes := #[25, 3] })
    (n : Nat) (hpos : 0 < n) (hn : n ≤ 1000) (hs : a.eval s = .slice none 0 0) (hx : a.eval x = .int .i64 n)
    (h : ∀ gc w', w'.ownsRow w.heap.size 3 1 (.slice (some ⟨w.heap.size, 0, none⟩) 0 gc) 0 [] → Below w.heap.size w w' → wpList Try.prog ops Q rest (a.put o.dst (.slice (some ⟨w.heap.size, 0, none⟩) n gc)) w') : wpList Try.prog ops Q (o :: rest) a w :=
  wpList_plain hgd fun _ hK => by
    obtain ⟨v', w', hrun, gc, rfl, h2, h3⟩ := run_grow n hpos hn o.type w
    unfold Oper.wp execOp
    simp only [ho, resolve, invoke, builtin, Sem.run_bind, Sem.run_pure, Result.andThen_ok, List.map_toArray, List.map_cons, List.map_nil, hs, hx, hrun]
    exact hK _ _ (h gc w' h2 h3)
end

set_option maxRecDepth 100000 in
theorem pGrow (n : Nat) (w : World) (hn : n ≤ 1000) :
    Calls Try.prog 35 #[.slice none 0 0, .int .i64 n] w fun e w' => ∃ v, e = .returned v ∧ w'.ownsRow w.heap.size 3 1 v 0 [] ∧ Below w.heap.size w w' := by
  rcases Nat.eq_zero_or_pos n with h | h
  · subst h
    go_enter Try.func35, Try.ntmps35
    go_wp2
    go_ret
    exact ⟨_, rfl, World.ownsRow_nil _ _ _ _, Below.refl _ _⟩
  · have hd : decide (0 < n) = true := by simpa using h
    go_enter Try.func35, Try.ntmps35
    go_wp2_with (at_builtin; go_must (refine grow0 rfl (.tmp 20) (.tmp 21) rfl n h hn rfl rfl ?_); intro gc w1 hown hb)
    go_ret
    exact ⟨_, rfl, hown, hb⟩

def totalN (l m : List Int) : Nat → Nat
  | 0 => 0
  | 1 => l.length
  | _ => l.length + m.length
def joinTo (l m : List Int) : Nat → List Int
  | 0 => []
  | 1 => l
  | _ => l ++ m
set_option maxRecDepth 100000 in
set_option maxHeartbeats 1000000 in
theorem pConcat (g : Nat) (A A' : Option Addr) (k c k' c' : Nat) (l m : List Int) (w : World) (hl : l.length ≤ 100) (hm : m.length ≤ 100) (B : Nat) (hB : B ≤ w.heap.size) (hr : Rd w B 1 A k (ints l)) (hr' : Rd w B 1 A' k' (ints m)) (hg : w.heap[g]? = some (.cells #[.slice A k c, .slice A' k' c'] 25 (0, 0))) :
    Calls Try.prog 20 #[.slice (some ⟨g, 0, none⟩) 2 2] w fun e w' => ∃ v, e = .returned v ∧ w'.ownsRow w.heap.size 3 1 v (l ++ m).length (ints (l ++ m)) ∧ Below w.heap.size w w' := by
  obtain rfl := hr.int_len
  obtain rfl := hr'.int_len
  have hlt := blk_lt hg
  have HG := Lib.hid hg
  clear hg
  go_enter Try.func20, Try.ntmps20
  go_wp2
  go_loopw [3, 11] (fun s i wr => ∃ q : Nat, i = .int .i64 q ∧ q ≤ 2 ∧ s = .int .i64 ((totalN l m q : Nat) : Int) ∧ Below w.heap.size w wr) (fun _ i _ => 2 - (intOf i).toNat)
  case atStart => exact ⟨0, rfl, by omega, rfl, Below.refl _ _⟩
  case round =>
    obtain ⟨q, rfl, hq, rfl, hb⟩ := hrel
    have x1 := blk_below HG.out hb hlt
    have c0 : wr.cell? ⟨g, 0, none⟩ = some (.slice A l.length c) := blk_cell x1 0
    have c1 : wr.cell? ⟨g, 1, none⟩ = some (.slice A' m.length c') := blk_cell x1 1
    have X1 := Lib.hid x1
    clear x1
    have T0 := Lib.hid (show totalN l m 0 = 0 from rfl)
    have T1 := Lib.hid (show totalN l m 1 = l.length from rfl)
    have T2 := Lib.hid (show totalN l m 2 = l.length + m.length from rfl)
    have h3 : q = 0 ∨ q = 1 ∨ q = 2 := by omega
    rcases h3 with rfl | rfl | rfl
    · rw [T0.out]
      go_wp2
      go_roundw
      case rel => exact ⟨1, rfl, by omega, by first | (rw [T1.out]; done) | (rw [T1.out]; go_num), hb⟩
      case measure => simp [intOf]
    · rw [T1.out]
      go_wp2
      go_roundw
      case rel => exact ⟨2, rfl, by omega, by first | (rw [T2.out]; done) | (rw [T2.out]; go_num), hb⟩
      case measure => simp [intOf]
    · rw [T2.out]
      have hsz := hb.size
      have hcast : ((l.length + m.length : Nat) : Int) = (l.length : Int) + (m.length : Int) := by omega
      clear hcast
      go_wp2_with fail
      refine (pGrow (l.length + m.length) wr (by omega)).mono ?_
      rintro e w1 ⟨v, rfl, hown, hb1⟩
      have hown1 := own_base hown hsz
      have B1 := hb.trans (hb1.mono hsz)
      clear hown hb hb1 c0 c1
      go_wp2
      go_loopw [6, 27] (fun v i wr => ∃ q : Nat, i = .int .i64 q ∧ q ≤ 2 ∧ wr.ownsRow w.heap.size 3 1 v (joinTo l m q).length (ints (joinTo l m q)) ∧ Below w.heap.size w wr) (fun _ i _ => 2 - (intOf i).toNat)
      case atStart => exact ⟨0, rfl, by omega, hown1, B1⟩
      case round =>
        clear hown1 B1
        obtain ⟨q, rfl, hq, hown, hb⟩ := hrel
        have hsz2 := hb.size
        have x1 := blk_below HG.out hb hlt
        have c0 : wr.cell? ⟨g, 0, none⟩ = some (.slice A l.length c) := blk_cell x1 0
        have c1 : wr.cell? ⟨g, 1, none⟩ = some (.slice A' m.length c') := blk_cell x1 1
        have X1 := Lib.hid x1
        clear x1
        have J1 := Lib.hid (show joinTo l m 1 = l from rfl)
        have J2 := Lib.hid (show joinTo l m 2 = l ++ m from rfl)
        have h3 : q = 0 ∨ q = 1 ∨ q = 2 := by omega
        rcases h3 with rfl | rfl | rfl
        · have hown0 : wr.ownsRow w.heap.size 3 1 u6 0 [] := hown
          go_wp2_with (at_builtin; go_must (refine appN rfl (.tmp 31) (.tmp 32) 25 rfl 3 _ 1 8 E25 w.heap.size _ _ _ rfl hown0 B A l.length c (ints l) rfl (hr.below' hb hB) (ints_one _) (by omega) hsz2 ?_); intro v2 w2 hown2 hg2)
          go_roundw
          case rel => exact ⟨1, rfl, by omega, by rw [J1.out]; simpa using hown2, below_own hb hsz2 hown0 (Nat.le_refl _) hg2⟩
          case measure => simp [intOf]
        · have hown0 : wr.ownsRow w.heap.size 3 1 u6 l.length (ints l) := hown
          go_wp2_with (at_builtin; go_must (refine appN rfl (.tmp 31) (.tmp 32) 25 rfl 3 _ 1 8 E25 w.heap.size _ _ _ rfl hown0 B A' m.length c' (ints m) rfl (hr'.below' hb hB) (ints_one _) (by omega) hsz2 ?_); intro v2 w2 hown2 hg2)
          go_roundw
          case rel => exact ⟨2, rfl, by omega, by rw [J2.out, List.length_append]; simpa using hown2, below_own hb hsz2 hown0 (Nat.le_refl _) hg2⟩
          case measure => simp [intOf]
        · go_wp2
          go_ret
          exact ⟨_, rfl, hown, hb⟩

end Go.Proofs.Ytlhbmfaoldajdaa
