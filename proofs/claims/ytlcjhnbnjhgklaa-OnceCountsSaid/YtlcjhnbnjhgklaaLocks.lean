/- The numbers under which this translation holds the library's lock: functions and types of sync.Mutex. Conditions: none; the kernel checks each number. -/
import Derived.Test.YtlcjhnbnjhgklaaProg
import Derived.Conc.MuLone
import Derived.KernelRfl
namespace Go.Proofs.Ytlcjhnbnjhgklaa
abbrev Try.muLink : Go.Conc.Locks.MuLink := { lock := 41, unlock := 42, ilock := 54, iunlock := 55, lockSlow := 61, unlockSlow := 64, disable := 57, enable := 59, acquire := 60, relMerge := 62, cas32 := 58, add32 := 63, tMutex := 34, tIMutex := 32, tPMutex := 95, tPIMutex := 97, tPI32 := 99, tUP := 101, tNoCopy := 26, tU32 := 28 }
theorem Try.muLib : Go.Conc.Locks.MuLib Try.prog Try.muLink :=
  ⟨Try.func41, Try.func42, Try.func54, Try.func55, Try.func57, Try.func59, Try.func60, Try.func62, Try.func58, Try.func63, Try.underlying32, Try.runUnderlying32, Try.sizeOf32, Try.isAgg32, Try.zeroValue32, Try.underlying34, Try.runUnderlying34, Try.sizeOf34, Try.isAgg34, Try.zeroValue34, Try.underlying95, Try.runUnderlying95, Try.sizeOf95, Try.isAgg95, Try.zeroValue95, Try.underlying97, Try.runUnderlying97, Try.sizeOf97, Try.isAgg97, Try.zeroValue97, Try.underlying99, Try.runUnderlying99, Try.sizeOf99, Try.isAgg99, Try.zeroValue99, Try.underlying101, Try.runUnderlying101, Try.sizeOf101, Try.isAgg101, Try.zeroValue101, Try.underlying26, Try.runUnderlying26, Try.sizeOf26, Try.isAgg26, Try.zeroValue26, Try.underlying21, Try.runUnderlying21, Try.sizeOf21, Try.isAgg21, Try.zeroValue21, (by kernel_rfl)⟩
end Go.Proofs.Ytlcjhnbnjhgklaa
