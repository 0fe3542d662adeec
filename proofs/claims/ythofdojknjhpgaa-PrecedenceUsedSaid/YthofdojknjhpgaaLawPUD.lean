/- Own texts, merged: a part of the proof that is told in the last text of this claim. -/
import Derived.Test.YthofdojknjhpgaaCMR
import Derived.Test.YthofdojknjhpgaaProg
set_option maxRecDepth 100000
set_option maxHeartbeats 0
namespace Go.Proofs.Ythofdojknjhpgaa
open Go

def f127_r0 : List AOp := [⟨(some 2), none, (.ins (.mv (.c (.int .i64 0))))⟩]
def f127_r1 : List AOp := [⟨(some 3), none, (.ins (.mv (.t 0)))⟩, ⟨(some 4), none, (.ins (.bin .geq 0 [] (.t 3) (.c (.int .u64 4294967296))))⟩]
def f127_r2 : List AOp := [⟨(some 5), none, (.ins (.mv (.t 0)))⟩, ⟨(some 6), none, (.ins (.bin .shr 0 [] (.t 5) (.c (.int .u64 32))))⟩, ⟨(some 0), none, (.ins (.mv (.t 6)))⟩]
def f127_r3 : List AOp := [⟨(some 2), none, (.ins (.mv (.c (.int .i64 32))))⟩]
def f127_r4 : List AOp := [⟨(some 7), none, (.ins (.mv (.t 0)))⟩, ⟨(some 8), none, (.ins (.bin .geq 0 [] (.t 7) (.c (.int .u64 65536))))⟩]
def f127_r5 : List AOp := [⟨(some 9), none, (.ins (.mv (.t 0)))⟩, ⟨(some 10), none, (.ins (.bin .shr 0 [] (.t 9) (.c (.int .u64 16))))⟩, ⟨(some 0), none, (.ins (.mv (.t 10)))⟩]
def f127_r6 : List AOp := [⟨(some 11), none, (.ins (.mv (.t 2)))⟩, ⟨(some 12), none, (.ins (.bin .add 0 [] (.t 11) (.c (.int .i64 16))))⟩, ⟨(some 2), none, (.ins (.mv (.t 12)))⟩]
def f127_r7 : List AOp := [⟨(some 13), none, (.ins (.mv (.t 0)))⟩, ⟨(some 14), none, (.ins (.bin .geq 0 [] (.t 13) (.c (.int .u64 256))))⟩]
def f127_r8 : List AOp := [⟨(some 15), none, (.ins (.mv (.t 0)))⟩, ⟨(some 16), none, (.ins (.bin .shr 0 [] (.t 15) (.c (.int .u64 8))))⟩, ⟨(some 0), none, (.ins (.mv (.t 16)))⟩]
def f127_r9 : List AOp := [⟨(some 17), none, (.ins (.mv (.t 2)))⟩, ⟨(some 18), none, (.ins (.bin .add 0 [] (.t 17) (.c (.int .i64 8))))⟩, ⟨(some 2), none, (.ins (.mv (.t 18)))⟩]
def f127_r10 : List AOp := [⟨(some 19), none, (.ins (.mv (.t 2)))⟩, ⟨(some 20), none, (.ins (.mv (.t 0)))⟩, ⟨(some 21), none, (.ins (.cint .u8 (.t 20)))⟩, ⟨(some 22), none, (.ins (.ixs (.c (.string (⟨#[0, 1, 2, 2, 3, 3, 3, 3, 4, 4, 4, 4, 4, 4, 4, 4, 5, 5, 5, 5, 5, 5, 5, 5, 5, 5, 5, 5, 5, 5, 5, 5, 6, 6, 6, 6, 6, 6, 6, 6, 6, 6, 6, 6, 6, 6, 6, 6, 6, 6, 6, 6, 6, 6, 6, 6, 6, 6, 6, 6, 6, 6, 6, 6, 7, 7, 7, 7, 7, 7, 7, 7, 7, 7, 7, 7, 7, 7, 7, 7, 7, 7, 7, 7, 7, 7, 7, 7, 7, 7, 7, 7, 7, 7, 7, 7, 7, 7, 7, 7, 7, 7, 7, 7, 7, 7, 7, 7, 7, 7, 7, 7, 7, 7, 7, 7, 7, 7, 7, 7, 7, 7, 7, 7, 7, 7, 7, 7, 8, 8, 8, 8, 8, 8, 8, 8, 8, 8, 8, 8, 8, 8, 8, 8, 8, 8, 8, 8, 8, 8, 8, 8, 8, 8, 8, 8, 8, 8, 8, 8, 8, 8, 8, 8, 8, 8, 8, 8, 8, 8, 8, 8, 8, 8, 8, 8, 8, 8, 8, 8, 8, 8, 8, 8, 8, 8, 8, 8, 8, 8, 8, 8, 8, 8, 8, 8, 8, 8, 8, 8, 8, 8, 8, 8, 8, 8, 8, 8, 8, 8, 8, 8, 8, 8, 8, 8, 8, 8, 8, 8, 8, 8, 8, 8, 8, 8, 8, 8, 8, 8, 8, 8, 8, 8, 8, 8, 8, 8, 8, 8, 8, 8, 8, 8, 8, 8, 8, 8, 8, 8, 8, 8, 8, 8, 8, 8]⟩ : ByteArray))) (.t 21)))⟩, ⟨(some 23), none, (.ins (.cint .i64 (.t 22)))⟩, ⟨(some 24), none, (.ins (.bin .add 0 [] (.t 19) (.t 23)))⟩, ⟨(some 2), none, (.ins (.mv (.t 24)))⟩]
def f127_c : IC := (.seq (.reg f127_r0) (.seq (.seq (.reg f127_r1) (.cond (.t 4) (.seq (.reg f127_r2) (.reg f127_r3)) .skip)) (.seq (.seq (.reg f127_r4) (.cond (.t 8) (.seq (.reg f127_r5) (.reg f127_r6)) .skip)) (.seq (.seq (.reg f127_r7) (.cond (.t 14) (.seq (.reg f127_r8) (.reg f127_r9)) .skip)) (.seq (.reg f127_r10) .ret)))))
theorem f127_is : FnIs Go.Proofs.Try.prog 127 25 f127_c [(.tmp 2)] := FnIs.of (by kernel_rfl)
end Go.Proofs.Ythofdojknjhpgaa
