/- The walk of the law Ipv4Spellings (layer 10), joined: it returns true; memory that existed is unchanged. Conditions: the library's tables stand. -/
import Derived.Test.YtblcgicgbindlaaDoorLaw10S1
import Derived.Test.YtblcgicgbindlaaDoorLaw10S2
import Derived.Test.YtblcgicgbindlaaDoorLaw10S3
import Derived.Test.YtblcgicgbindlaaDoorLaw10S4
namespace Go.Proofs.YtblcgicgbindlaaDoor
open Go.RowKit Hs
set_option linter.unusedSimpArgs false
set_option linter.unusedVariables false

theorem spellings_walk10 (v : Nat) (parts z0 z1 z2 z3 : Int) (w : World) (hB : Base w) (hv : v < 4294967296) (hp : (Lit.int .i64 parts).wf = true) (h0 : (Lit.int .i64 z0).wf = true) (h1 : (Lit.int .i64 z1).wf = true) (h2 : (Lit.int .i64 z2).wf = true) (h3 : (Lit.int .i64 z3).wf = true) : Calls Tryd.prog 5 #[.int .u32 (v : Int), .int .i64 parts, .agg #[.int .i64 z0, .int .i64 z1, .int .i64 z2, .int .i64 z3]] w fun e w' => e = .returned (.bool true) ∧ Below w.heap.size w w' := by
  rcases (by omega : parts % 4 = 0 ∨ parts % 4 = 1 ∨ parts % 4 = 2 ∨ parts % 4 = 3) with h | h | h | h
  · exact spell_walk1 v parts z0 z1 z2 z3 w hB hv hp h0 h1 h2 h3 h
  · exact spell_walk2 v parts z0 z1 z2 z3 w hB hv hp h0 h1 h2 h3 h
  · exact spell_walk3 v parts z0 z1 z2 z3 w hB hv hp h0 h1 h2 h3 h
  · exact spell_walk4 v parts z0 z1 z2 z3 w hB hv hp h0 h1 h2 h3 h
end Go.Proofs.YtblcgicgbindlaaDoor
