/-
  THE WALK of TopZones: its ways joined. (Printed by gen_ltop.py.)
-/
import Derived.Test.YtlhbmfaoldajdaaLTop0
import Derived.Test.YtlhbmfaoldajdaaLTop1
import Derived.Test.YtlhbmfaoldajdaaLTop2
import Derived.Test.YtlhbmfaoldajdaaLTop3
import Derived.Test.YtlhbmfaoldajdaaLTop4
import Derived.Test.YtlhbmfaoldajdaaLTop5
import Derived.Test.YtlhbmfaoldajdaaLTop6
import Derived.Test.YtlhbmfaoldajdaaLTop7
import Derived.Test.YtlhbmfaoldajdaaLTop8
import Derived.Test.YtlhbmfaoldajdaaLTop9
import Derived.Test.YtlhbmfaoldajdaaLTop10
namespace Go.Proofs.Ytlhbmfaoldajdaa
open Go.RowKit Go.Maps

theorem lawTopZones (Z : Int) (A : Option Addr) (k c : Nat) (L : List (Int × Int)) (A' : Option Addr) (k' c' : Nat) (s : List Int) (A'' : Option Addr) (k'' c'' : Nat) (t : List Int) (Ap : Option Addr) (kp cp : Nat) (p : List (Int × Int)) (w : World) (hk : k ≤ c) (hc : c ≤ maxLen) (hr : Rd w w.heap.size 2 A k (prs L)) (hk' : k' ≤ c') (hc' : c' ≤ maxLen) (hr' : Rd w w.heap.size 1 A' k' (ints s)) (hk'' : k'' ≤ c'') (hc'' : c'' ≤ maxLen) (hr'' : Rd w w.heap.size 1 A'' k'' (ints t)) (hkp : kp ≤ cp) (hcp : cp ≤ maxLen) (hrp : Rd w w.heap.size 2 Ap kp (prs p))  :
    Calls Try.prog 3 #[.agg #[.int .i64 Z, .slice A k c], .agg #[.slice A' k' c', .slice A'' k'' c''], .slice Ap kp cp] w fun e w' => e = .returned (.bool true) ∧ Below w.heap.size w w' := by
  cases h : decide (60 < L.length) with
  | true => exact topLong0 Z A k c L A' k' c' s A'' k'' c'' t Ap kp cp p w hk hc hr hk' hc' hr' hk'' hc'' hr'' hkp hcp hrp h
  | false =>
    cases h1 : decide (40 < s.length) with
    | true => exact topLong1 Z A k c L A' k' c' s A'' k'' c'' t Ap kp cp p w hk hc hr hk' hc' hr' hk'' hc'' hr'' hkp hcp hrp h h1
    | false =>
      cases h2 : decide (40 < t.length) with
      | true => exact topLong2 Z A k c L A' k' c' s A'' k'' c'' t Ap kp cp p w hk hc hr hk' hc' hr' hk'' hc'' hr'' hkp hcp hrp h h1 h2
      | false =>
        cases h3 : decide (1000 < p.length) with
        | true => exact topLong3 Z A k c L A' k' c' s A'' k'' c'' t Ap kp cp p w hk hc hr hk' hc' hr' hk'' hc'' hr'' hkp hcp hrp h h1 h2 h3
        | false =>
          by_cases hv : placeE Z L s = 0
          · by_cases hp : planB Z L s p
            · by_cases hq : pairZ Z L s t = 0
              · cases hf : farB Z L s t with
                | true =>
                  cases ho : seqB Z L s with
                  | true => exact topWay1_farY Z A k c L A' k' c' s A'' k'' c'' t Ap kp cp p w hk hc hr hk' hc' hr' hk'' hc'' hr'' hkp hcp hrp h h1 h2 h3 hv hp hq hf ho
                  | false => exact topWay1_farN Z A k c L A' k' c' s A'' k'' c'' t Ap kp cp p w hk hc hr hk' hc' hr' hk'' hc'' hr'' hkp hcp hrp h h1 h2 h3 hv hp hq hf ho
                | false =>
                  cases ho : seqB Z L s with
                  | true => exact topWay1_offY Z A k c L A' k' c' s A'' k'' c'' t Ap kp cp p w hk hc hr hk' hc' hr' hk'' hc'' hr'' hkp hcp hrp h h1 h2 h3 hv hp hq hf ho
                  | false => exact topWay1_offN Z A k c L A' k' c' s A'' k'' c'' t Ap kp cp p w hk hc hr hk' hc' hr' hk'' hc'' hr'' hkp hcp hrp h h1 h2 h3 hv hp hq hf ho
              · exact topWay1_un Z A k c L A' k' c' s A'' k'' c'' t Ap kp cp p w hk hc hr hk' hc' hr' hk'' hc'' hr'' hkp hcp hrp h h1 h2 h3 hv hp hq
            · by_cases hq : pairZ Z L s t = 0
              · cases hf : farB Z L s t with
                | true =>
                  cases ho : seqB Z L s with
                  | true => exact topWay0_farY Z A k c L A' k' c' s A'' k'' c'' t Ap kp cp p w hk hc hr hk' hc' hr' hk'' hc'' hr'' hkp hcp hrp h h1 h2 h3 hv hp hq hf ho
                  | false => exact topWay0_farN Z A k c L A' k' c' s A'' k'' c'' t Ap kp cp p w hk hc hr hk' hc' hr' hk'' hc'' hr'' hkp hcp hrp h h1 h2 h3 hv hp hq hf ho
                | false =>
                  cases ho : seqB Z L s with
                  | true => exact topWay0_offY Z A k c L A' k' c' s A'' k'' c'' t Ap kp cp p w hk hc hr hk' hc' hr' hk'' hc'' hr'' hkp hcp hrp h h1 h2 h3 hv hp hq hf ho
                  | false => exact topWay0_offN Z A k c L A' k' c' s A'' k'' c'' t Ap kp cp p w hk hc hr hk' hc' hr' hk'' hc'' hr'' hkp hcp hrp h h1 h2 h3 hv hp hq hf ho
              · exact topWay0_un Z A k c L A' k' c' s A'' k'' c'' t Ap kp cp p w hk hc hr hk' hc' hr' hk'' hc'' hr'' hkp hcp hrp h h1 h2 h3 hv hp hq
          · exact topBad Z A k c L A' k' c' s A'' k'' c'' t Ap kp cp p w hk hc hr hk' hc' hr' hk'' hc'' hr'' hkp hcp hrp h h1 h2 h3 hv
end Go.Proofs.Ytlhbmfaoldajdaa
