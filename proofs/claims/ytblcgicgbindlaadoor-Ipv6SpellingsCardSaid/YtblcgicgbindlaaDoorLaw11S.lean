/- The walk of the law Ipv6Spellings (layer 11): it returns true; memory that existed is unchanged. Conditions: the library's tables stand. -/
import Derived.Test.YtblcgicgbindlaaDoorLaw11S1
import Derived.Test.YtblcgicgbindlaaDoorLaw11S2
import Derived.Test.YtblcgicgbindlaaDoorLaw11S3
namespace Go.Proofs.YtblcgicgbindlaaDoor
open Go.RowKit Hs
set_option linter.unusedVariables false

theorem spellings_walk11 (a : List Nat) (z0 z1 st : Int) (w : World) (hB : Base6 w) (h8 : a.length = 8) (hl : ∀ x ∈ a, x < 65536) (h0 : (Lit.int .i64 z0).wf = true) (h1 : (Lit.int .i64 z1).wf = true) (h2 : (Lit.int .i64 st).wf = true) : Calls Tryd.prog 9 #[.agg ((a.map Int.ofNat).map (Value.int .u16)).toArray, .agg #[.int .i64 z0, .int .i64 z1], .int .i64 st] w fun e w' => e = .returned (.bool true) ∧ Below w.heap.size w w' := by
  have hf : z0 % 8 = (((z0 % 8).toNat : Nat) : Int) := by omega
  have hn : z1 % 4 = (((z1 % 4).toNat : Nat) : Int) := by omega
  cases hev : (st.tmod 2 == 0)
  · exact spell6_walk2 a z0 z1 st w hB h8 hl h0 h1 h2 _ _ hf hn hev
  · by_cases hd : (z0 % 8).toNat + min (z1 % 4).toNat (8 - (z0 % 8).toNat) ≤ 6
    · exact spell6_walk1 a z0 z1 st w hB h8 hl h0 h1 h2 _ _ hf hn hev hd
    · exact spell6_walk3 a z0 z1 st w hB h8 hl h0 h1 h2 _ _ hf hn hev (by omega)
end Go.Proofs.YtblcgicgbindlaaDoor
