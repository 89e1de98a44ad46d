/- The types of the program, as the walks want them told; each is held against the program. Printed by a program of this session. -/
import Derived.Test.YtocklkkdgldlaaaStFwD
import Derived.Test.YtocklkkdgldlaaaProg
import Derived.KernelRfl
namespace Go.Ab
open Go.Proofs
def ti3 : TI := { u := (.int .i64), size := 1, bytes := 8, zero := [.int .i64 (0)], plain := false, conc := true }
theorem tg3 : TGood Try.prog 3 ti3 := TGood.of_facts _ Try.underlying3 rfl Try.t3 (by kernel_rfl) rfl rfl _ rfl (by kernel_rfl) (by kernel_rfl) (by kernel_rfl) rfl (by kernel_rfl)
def ti4 : TI := { u := .bool, size := 1, bytes := 1, zero := [.bool false], plain := false, conc := true }
theorem tg4 : TGood Try.prog 4 ti4 := TGood.of_facts _ Try.underlying4 rfl Try.t4 (by kernel_rfl) rfl rfl _ rfl (by kernel_rfl) (by kernel_rfl) (by kernel_rfl) rfl (by kernel_rfl)
def ti5 : TI := { u := (.int .u8), size := 1, bytes := 1, zero := [.int .u8 (0)], plain := false, conc := true }
theorem tg5 : TGood Try.prog 5 ti5 := TGood.of_facts _ Try.underlying5 rfl Try.t5 (by kernel_rfl) rfl rfl _ rfl (by kernel_rfl) (by kernel_rfl) (by kernel_rfl) rfl (by kernel_rfl)
def ti9 : TI := { u := .str, size := 1, bytes := 16, zero := [.string ByteArray.empty], plain := false, conc := true }
theorem tg9 : TGood Try.prog 9 ti9 := TGood.of_facts _ Try.underlying9 rfl Try.t9 (by kernel_rfl) rfl rfl _ rfl (by kernel_rfl) (by kernel_rfl) (by kernel_rfl) rfl (by kernel_rfl)
def ti23 : TI := { u := (.slice 9), size := 1, bytes := 24, zero := [.slice none 0 0], plain := false, conc := true }
theorem tg23 : TGood Try.prog 23 ti23 := TGood.of_facts _ Try.underlying23 rfl Try.t23 (by kernel_rfl) rfl rfl _ rfl (by kernel_rfl) (by kernel_rfl) (by kernel_rfl) rfl (by kernel_rfl)
def ti29 : TI := { u := (.slice 69), size := 1, bytes := 24, zero := [.slice none 0 0], plain := false, conc := true }
theorem tg29 : TGood Try.prog 29 ti29 := TGood.of_facts _ Try.underlying29 rfl Try.t29 (by kernel_rfl) rfl rfl _ rfl (by kernel_rfl) (by kernel_rfl) (by kernel_rfl) rfl (by kernel_rfl)
def ti31 : TI := { u := (.struct [(0, 29), (1, 3), (2, 3), (3, 4)]), size := 4, bytes := 48, zero := [.slice none 0 0, .int .i64 (0), .int .i64 (0), .bool false], plain := false, conc := true }
theorem tg31 : TGood Try.prog 31 ti31 := TGood.of_facts _ Try.underlying31 ⟨_, rfl, rfl, by simp⟩ Try.t31 (by kernel_rfl) rfl rfl _ rfl (by kernel_rfl) (by kernel_rfl) (by kernel_rfl) rfl (by kernel_rfl)
def ti32 : TI := { u := (.int .i64), size := 1, bytes := 8, zero := [.int .i64 (0)], plain := false, conc := true }
theorem tg32 : TGood Try.prog 32 ti32 := TGood.of_facts _ Try.underlying32 rfl Try.t32 (by kernel_rfl) rfl rfl _ rfl (by kernel_rfl) (by kernel_rfl) (by kernel_rfl) rfl (by kernel_rfl)
def ti43 : TI := { u := (.slice 48), size := 1, bytes := 24, zero := [.slice none 0 0], plain := false, conc := true }
theorem tg43 : TGood Try.prog 43 ti43 := TGood.of_facts _ Try.underlying43 rfl Try.t43 (by kernel_rfl) rfl rfl _ rfl (by kernel_rfl) (by kernel_rfl) (by kernel_rfl) rfl (by kernel_rfl)
def ti46 : TI := { u := (.struct [(0, 31), (4, 3), (5, 23), (6, 3), (7, 4)]), size := 8, bytes := 96, zero := [.slice none 0 0, .int .i64 (0), .int .i64 (0), .bool false, .int .i64 (0), .slice none 0 0, .int .i64 (0), .bool false], plain := false, conc := true }
theorem tg46 : TGood Try.prog 46 ti46 := TGood.of_facts _ Try.underlying46 ⟨_, rfl, rfl, by simp⟩ Try.t46 (by kernel_rfl) rfl rfl _ rfl (by kernel_rfl) (by kernel_rfl) (by kernel_rfl) rfl (by kernel_rfl)
def ti48 : TI := { u := (.struct [(0, 3), (1, 3), (2, 9)]), size := 3, bytes := 32, zero := [.int .i64 (0), .int .i64 (0), .string ByteArray.empty], plain := true, conc := true }
theorem tg48 : TGood Try.prog 48 ti48 := TGood.of_facts _ Try.underlying48 ⟨_, rfl, rfl, by simp⟩ Try.t48 (by kernel_rfl) rfl rfl _ rfl (by kernel_rfl) (by kernel_rfl) (by kernel_rfl) rfl (by kernel_rfl)
def ti50 : TI := { u := (.slice 3), size := 1, bytes := 24, zero := [.slice none 0 0], plain := false, conc := true }
theorem tg50 : TGood Try.prog 50 ti50 := TGood.of_facts _ Try.underlying50 rfl Try.t50 (by kernel_rfl) rfl rfl _ rfl (by kernel_rfl) (by kernel_rfl) (by kernel_rfl) rfl (by kernel_rfl)
def ti67 : TI := { u := (.struct [(0, 31), (4, 3), (5, 3), (6, 9)]), size := 7, bytes := 80, zero := [.slice none 0 0, .int .i64 (0), .int .i64 (0), .bool false, .int .i64 (0), .int .i64 (0), .string ByteArray.empty], plain := false, conc := true }
theorem tg67 : TGood Try.prog 67 ti67 := TGood.of_facts _ Try.underlying67 ⟨_, rfl, rfl, by simp⟩ Try.t67 (by kernel_rfl) rfl rfl _ rfl (by kernel_rfl) (by kernel_rfl) (by kernel_rfl) rfl (by kernel_rfl)
def ti69 : TI := { u := (.struct [(0, 9), (1, 9), (2, 9)]), size := 3, bytes := 48, zero := [.string ByteArray.empty, .string ByteArray.empty, .string ByteArray.empty], plain := true, conc := true }
theorem tg69 : TGood Try.prog 69 ti69 := TGood.of_facts _ Try.underlying69 ⟨_, rfl, rfl, by simp⟩ Try.t69 (by kernel_rfl) rfl rfl _ rfl (by kernel_rfl) (by kernel_rfl) (by kernel_rfl) rfl (by kernel_rfl)
def ti81 : TI := { u := (.int .u64), size := 1, bytes := 8, zero := [.int .u64 (0)], plain := false, conc := true }
theorem tg81 : TGood Try.prog 81 ti81 := TGood.of_facts _ Try.underlying81 rfl Try.t81 (by kernel_rfl) rfl rfl _ rfl (by kernel_rfl) (by kernel_rfl) (by kernel_rfl) rfl (by kernel_rfl)
def ti90 : TI := { u := (.int .u32), size := 1, bytes := 4, zero := [.int .u32 (0)], plain := false, conc := true }
theorem tg90 : TGood Try.prog 90 ti90 := TGood.of_facts _ Try.underlying90 rfl Try.t90 (by kernel_rfl) rfl rfl _ rfl (by kernel_rfl) (by kernel_rfl) (by kernel_rfl) rfl (by kernel_rfl)
def ti98 : TI := { u := (.array 21 5), size := 21, bytes := 21, zero := [.int .u8 (0), .int .u8 (0), .int .u8 (0), .int .u8 (0), .int .u8 (0), .int .u8 (0), .int .u8 (0), .int .u8 (0), .int .u8 (0), .int .u8 (0), .int .u8 (0), .int .u8 (0), .int .u8 (0), .int .u8 (0), .int .u8 (0), .int .u8 (0), .int .u8 (0), .int .u8 (0), .int .u8 (0), .int .u8 (0), .int .u8 (0)], plain := false, conc := true }
theorem tg98 : TGood Try.prog 98 ti98 := TGood.of_facts _ Try.underlying98 rfl Try.t98 (by kernel_rfl) rfl rfl _ rfl (by kernel_rfl) (by kernel_rfl) (by kernel_rfl) rfl (by kernel_rfl)
def ti99 : TI := { u := (.slice 5), size := 1, bytes := 24, zero := [.slice none 0 0], plain := false, conc := true }
theorem tg99 : TGood Try.prog 99 ti99 := TGood.of_facts _ Try.underlying99 rfl Try.t99 (by kernel_rfl) rfl rfl _ rfl (by kernel_rfl) (by kernel_rfl) (by kernel_rfl) rfl (by kernel_rfl)
def ti110 : TI := { u := .func, size := 1, bytes := 8, zero := [.nilFunc], plain := false, conc := true }
theorem tg110 : TGood Try.prog 110 ti110 := TGood.of_facts _ Try.underlying110 ⟨_, _, _, rfl⟩ Try.t110 (by kernel_rfl) rfl rfl _ rfl (by kernel_rfl) (by kernel_rfl) (by kernel_rfl) rfl (by kernel_rfl)
def ti111 : TI := { u := (.array 2 90), size := 2, bytes := 8, zero := [.int .u32 (0), .int .u32 (0)], plain := false, conc := true }
theorem tg111 : TGood Try.prog 111 ti111 := TGood.of_facts _ Try.underlying111 rfl Try.t111 (by kernel_rfl) rfl rfl _ rfl (by kernel_rfl) (by kernel_rfl) (by kernel_rfl) rfl (by kernel_rfl)
def tys : Tys := [none, none, none, some ti3, some ti4, some ti5, none, none, none, some ti9, none, none, none, none, none, none, none, none, none, none, none, none, none, some ti23, none, none, none, none, none, some ti29, none, some ti31, some ti32, none, none, none, none, none, none, none, none, none, none, some ti43, none, none, some ti46, none, some ti48, none, some ti50, none, none, none, none, none, none, none, none, none, none, none, none, none, none, none, none, some ti67, none, some ti69, none, none, none, none, none, none, none, none, none, none, none, some ti81, none, none, none, none, none, none, none, none, some ti90, none, none, none, none, none, none, none, some ti98, some ti99, none, none, none, none, none, none, none, none, none, none, some ti110, some ti111, none, none, none, none, none, none, none, none, none, none, none, none, none, none, none, none, none, none, none, none, none]
theorem tyOk : TyOk Try.prog tys := tyOk_of ⟨tg3, tg4, tg5, tg9, tg23, tg29, tg31, tg32, tg43, tg46, tg48, tg50, tg67, tg69, tg81, tg90, tg98, tg99, tg110, tg111, trivial⟩
theorem mixed : Try.prog.follows .mixedOrders = true := by kernel_rfl
end Go.Ab
