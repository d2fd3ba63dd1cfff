/- What is known of this program's types. -/
import Derived.Test.YtdndlcghoibppaaAr
import Derived.Test.YtdndlcghoibppaaProg
namespace Go.Proofs.Ytdndlcghoibppaa
open Go Go.Lg
def ttl : List (Nat × TI) := [(3, ⟨.int .i64, 1, 8, .int .i64 0⟩), (23, ⟨.array 256 3, 256, 2048, .agg (ar 256 .i64 fun _ => 0)⟩), (22, ⟨.array 256 3, 256, 2048, .agg (ar 256 .i64 fun _ => 0)⟩),
  (34, ⟨.slice 3, 1, 24, .slice none 0 0⟩), (21, ⟨.int .i32, 1, 4, .int .i32 0⟩), (4, ⟨.bool, 1, 1, .bool false⟩)]
def T0 : TT Try.prog := ⟨ttl, getT_cons ⟨Try.underlying3, by kernel_rfl⟩ (getT_cons ⟨Try.underlying23, by kernel_rfl⟩ (getT_cons ⟨Try.underlying22, by kernel_rfl⟩
  (getT_cons ⟨Try.underlying34, by kernel_rfl⟩ (getT_cons ⟨Try.underlying21, by kernel_rfl⟩ (getT_cons ⟨Try.underlying4, by kernel_rfl⟩ getT_nil)))))⟩
theorem mixed : Try.prog.follows .mixedOrders = true := by kernel_rfl
end Go.Proofs.Ytdndlcghoibppaa
