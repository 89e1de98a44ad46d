/- The types of the program, as the walks want them told; each is held against the program. Printed by a program of this session. -/
import Derived.Test.YthhddlhgkejhbaaStAbsY
import Derived.Test.YthhddlhgkejhbaaProg
import Derived.KernelRfl
namespace Go.Ab
open Go.Proofs
def ti3 : TI := { u := (.int .i64), size := 1, bytes := 8, zero := [.int .i64 (0)], plain := false, conc := true }
theorem tg3 : TGood Try.prog 3 ti3 := TGood.of_facts _ Try.underlying3 rfl Try.t3 (by kernel_rfl) rfl rfl _ rfl (by kernel_rfl) (by kernel_rfl) (by kernel_rfl) rfl (by kernel_rfl)
def ti4 : TI := { u := .bool, size := 1, bytes := 1, zero := [.bool false], plain := false, conc := true }
theorem tg4 : TGood Try.prog 4 ti4 := TGood.of_facts _ Try.underlying4 rfl Try.t4 (by kernel_rfl) rfl rfl _ rfl (by kernel_rfl) (by kernel_rfl) (by kernel_rfl) rfl (by kernel_rfl)
def ti5 : TI := { u := (.int .u8), size := 1, bytes := 1, zero := [.int .u8 (0)], plain := false, conc := true }
theorem tg5 : TGood Try.prog 5 ti5 := TGood.of_facts _ Try.underlying5 rfl Try.t5 (by kernel_rfl) rfl rfl _ rfl (by kernel_rfl) (by kernel_rfl) (by kernel_rfl) rfl (by kernel_rfl)
def ti9 : TI := { u := .str, size := 1, bytes := 16, zero := [.string ByteArray.empty], plain := false, conc := true }
theorem tg9 : TGood Try.prog 9 ti9 := TGood.of_facts _ Try.underlying9 rfl Try.t9 (by kernel_rfl) rfl rfl _ rfl (by kernel_rfl) (by kernel_rfl) (by kernel_rfl) rfl (by kernel_rfl)
def ti22 : TI := { u := (.slice 55), size := 1, bytes := 24, zero := [.slice none 0 0], plain := false, conc := true }
theorem tg22 : TGood Try.prog 22 ti22 := TGood.of_facts _ Try.underlying22 rfl Try.t22 (by kernel_rfl) rfl rfl _ rfl (by kernel_rfl) (by kernel_rfl) (by kernel_rfl) rfl (by kernel_rfl)
def ti24 : TI := { u := (.struct [(0, 22), (1, 3), (2, 3), (3, 4)]), size := 4, bytes := 48, zero := [.slice none 0 0, .int .i64 (0), .int .i64 (0), .bool false], plain := false, conc := true }
theorem tg24 : TGood Try.prog 24 ti24 := TGood.of_facts _ Try.underlying24 ⟨_, rfl, rfl, by simp⟩ Try.t24 (by kernel_rfl) rfl rfl _ rfl (by kernel_rfl) (by kernel_rfl) (by kernel_rfl) rfl (by kernel_rfl)
def ti26 : TI := { u := (.int .i64), size := 1, bytes := 8, zero := [.int .i64 (0)], plain := false, conc := true }
theorem tg26 : TGood Try.prog 26 ti26 := TGood.of_facts _ Try.underlying26 rfl Try.t26 (by kernel_rfl) rfl rfl _ rfl (by kernel_rfl) (by kernel_rfl) (by kernel_rfl) rfl (by kernel_rfl)
def ti45 : TI := { u := (.slice 50), size := 1, bytes := 24, zero := [.slice none 0 0], plain := false, conc := true }
theorem tg45 : TGood Try.prog 45 ti45 := TGood.of_facts _ Try.underlying45 rfl Try.t45 (by kernel_rfl) rfl rfl _ rfl (by kernel_rfl) (by kernel_rfl) (by kernel_rfl) rfl (by kernel_rfl)
def ti50 : TI := { u := (.struct [(0, 3), (1, 3)]), size := 2, bytes := 16, zero := [.int .i64 (0), .int .i64 (0)], plain := true, conc := true }
theorem tg50 : TGood Try.prog 50 ti50 := TGood.of_facts _ Try.underlying50 ⟨_, rfl, rfl, by simp⟩ Try.t50 (by kernel_rfl) rfl rfl _ rfl (by kernel_rfl) (by kernel_rfl) (by kernel_rfl) rfl (by kernel_rfl)
def ti51 : TI := { u := (.slice 3), size := 1, bytes := 24, zero := [.slice none 0 0], plain := false, conc := true }
theorem tg51 : TGood Try.prog 51 ti51 := TGood.of_facts _ Try.underlying51 rfl Try.t51 (by kernel_rfl) rfl rfl _ rfl (by kernel_rfl) (by kernel_rfl) (by kernel_rfl) rfl (by kernel_rfl)
def ti55 : TI := { u := (.struct [(0, 9), (1, 9), (2, 9)]), size := 3, bytes := 48, zero := [.string ByteArray.empty, .string ByteArray.empty, .string ByteArray.empty], plain := true, conc := true }
theorem tg55 : TGood Try.prog 55 ti55 := TGood.of_facts _ Try.underlying55 ⟨_, rfl, rfl, by simp⟩ Try.t55 (by kernel_rfl) rfl rfl _ rfl (by kernel_rfl) (by kernel_rfl) (by kernel_rfl) rfl (by kernel_rfl)
def ti61 : TI := { u := (.int .u64), size := 1, bytes := 8, zero := [.int .u64 (0)], plain := false, conc := true }
theorem tg61 : TGood Try.prog 61 ti61 := TGood.of_facts _ Try.underlying61 rfl Try.t61 (by kernel_rfl) rfl rfl _ rfl (by kernel_rfl) (by kernel_rfl) (by kernel_rfl) rfl (by kernel_rfl)
def ti63 : TI := { u := .iface, size := 1, bytes := 16, zero := [.nilIface], plain := false, conc := false }
theorem tg63 : TGood Try.prog 63 ti63 := TGood.of_facts _ Try.underlying63 ⟨_, rfl⟩ Try.t63 (by kernel_rfl) rfl rfl _ rfl (by kernel_rfl) (by kernel_rfl) (by kernel_rfl) rfl (by kernel_rfl)
def ti68 : TI := { u := (.struct []), size := 0, bytes := 0, zero := [], plain := true, conc := true }
theorem tg68 : TGood Try.prog 68 ti68 := TGood.of_facts _ Try.underlying68 ⟨_, rfl, rfl, by simp⟩ Try.t68 (by kernel_rfl) rfl rfl _ rfl (by kernel_rfl) (by kernel_rfl) (by kernel_rfl) rfl (by kernel_rfl)
def ti80 : TI := { u := (.int .u32), size := 1, bytes := 4, zero := [.int .u32 (0)], plain := false, conc := true }
theorem tg80 : TGood Try.prog 80 ti80 := TGood.of_facts _ Try.underlying80 rfl Try.t80 (by kernel_rfl) rfl rfl _ rfl (by kernel_rfl) (by kernel_rfl) (by kernel_rfl) rfl (by kernel_rfl)
def ti82 : TI := { u := (.array 21 5), size := 21, bytes := 21, zero := [.int .u8 (0), .int .u8 (0), .int .u8 (0), .int .u8 (0), .int .u8 (0), .int .u8 (0), .int .u8 (0), .int .u8 (0), .int .u8 (0), .int .u8 (0), .int .u8 (0), .int .u8 (0), .int .u8 (0), .int .u8 (0), .int .u8 (0), .int .u8 (0), .int .u8 (0), .int .u8 (0), .int .u8 (0), .int .u8 (0), .int .u8 (0)], plain := false, conc := true }
theorem tg82 : TGood Try.prog 82 ti82 := TGood.of_facts _ Try.underlying82 rfl Try.t82 (by kernel_rfl) rfl rfl _ rfl (by kernel_rfl) (by kernel_rfl) (by kernel_rfl) rfl (by kernel_rfl)
def ti83 : TI := { u := (.slice 5), size := 1, bytes := 24, zero := [.slice none 0 0], plain := false, conc := true }
theorem tg83 : TGood Try.prog 83 ti83 := TGood.of_facts _ Try.underlying83 rfl Try.t83 (by kernel_rfl) rfl rfl _ rfl (by kernel_rfl) (by kernel_rfl) (by kernel_rfl) rfl (by kernel_rfl)
def ti89 : TI := { u := (.struct [(0, 63)]), size := 1, bytes := 16, zero := [.nilIface], plain := false, conc := true }
theorem tg89 : TGood Try.prog 89 ti89 := TGood.of_facts _ Try.underlying89 ⟨_, rfl, rfl, by simp⟩ Try.t89 (by kernel_rfl) rfl rfl _ rfl (by kernel_rfl) (by kernel_rfl) (by kernel_rfl) rfl (by kernel_rfl)
def ti96 : TI := { u := (.array 2 80), size := 2, bytes := 8, zero := [.int .u32 (0), .int .u32 (0)], plain := false, conc := true }
theorem tg96 : TGood Try.prog 96 ti96 := TGood.of_facts _ Try.underlying96 rfl Try.t96 (by kernel_rfl) rfl rfl _ rfl (by kernel_rfl) (by kernel_rfl) (by kernel_rfl) rfl (by kernel_rfl)
def ti120 : TI := { u := .func, size := 1, bytes := 8, zero := [.nilFunc], plain := false, conc := true }
theorem tg120 : TGood Try.prog 120 ti120 := TGood.of_facts _ Try.underlying120 ⟨_, _, _, rfl⟩ Try.t120 (by kernel_rfl) rfl rfl _ rfl (by kernel_rfl) (by kernel_rfl) (by kernel_rfl) rfl (by kernel_rfl)
def tys : Tys := [none, none, none, some ti3, some ti4, some ti5, none, none, none, some ti9, none, none, none, none, none, none, none, none, none, none, none, none, some ti22, none, some ti24, none, some ti26, none, none, none, none, none, none, none, none, none, none, none, none, none, none, none, none, none, none, some ti45, none, none, none, none, some ti50, some ti51, none, none, none, some ti55, none, none, none, none, none, some ti61, none, some ti63, none, none, none, none, some ti68, none, none, none, none, none, none, none, none, none, none, none, some ti80, none, some ti82, some ti83, none, none, none, none, none, some ti89, none, none, none, none, none, none, some ti96, none, none, none, none, none, none, none, none, none, none, none, none, none, none, none, none, none, none, none, none, none, none, none, some ti120, none, none, none, none, none, none, none, none, none, none, none, none, none, none, none, none, none, none, none, none, none, none, none, none, none, none, none, none, none, none, none, none, none, none]
theorem tyOk : TyOk Try.prog tys := tyOk_of ⟨tg3, tg4, tg5, tg9, tg22, tg24, tg26, tg45, tg50, tg51, tg55, tg61, tg63, tg68, tg80, tg82, tg83, tg89, tg96, tg120, trivial⟩
theorem mixed : Try.prog.follows .mixedOrders = true := by kernel_rfl
end Go.Ab
