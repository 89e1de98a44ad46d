/- The types of the program, as the walks want them told; each is held against the program. Printed by a program of this session. -/
import Derived.Test.YtdoceelfokmhfaaStFwD
import Derived.Test.YtdoceelfokmhfaaProg
import Derived.KernelRfl
namespace Go.Ab
open Go.Proofs
def ti3 : TI := { u := (.int .i64), size := 1, bytes := 8, zero := [.int .i64 (0)], plain := false, conc := true }
theorem tg3 : TGood Try.prog 3 ti3 := TGood.of_facts _ Try.underlying3 rfl Try.t3 (by kernel_rfl) rfl rfl _ rfl (by kernel_rfl) (by kernel_rfl) (by kernel_rfl) rfl (by kernel_rfl)
def ti4 : TI := { u := .bool, size := 1, bytes := 1, zero := [.bool false], plain := false, conc := true }
theorem tg4 : TGood Try.prog 4 ti4 := TGood.of_facts _ Try.underlying4 rfl Try.t4 (by kernel_rfl) rfl rfl _ rfl (by kernel_rfl) (by kernel_rfl) (by kernel_rfl) rfl (by kernel_rfl)
def ti5 : TI := { u := (.int .u8), size := 1, bytes := 1, zero := [.int .u8 (0)], plain := false, conc := true }
theorem tg5 : TGood Try.prog 5 ti5 := TGood.of_facts _ Try.underlying5 rfl Try.t5 (by kernel_rfl) rfl rfl _ rfl (by kernel_rfl) (by kernel_rfl) (by kernel_rfl) rfl (by kernel_rfl)
def ti9 : TI := { u := .str, size := 1, bytes := 16, zero := [.string ByteArray.empty], plain := false, conc := true }
theorem tg9 : TGood Try.prog 9 ti9 := TGood.of_facts _ Try.underlying9 rfl Try.t9 (by kernel_rfl) rfl rfl _ rfl (by kernel_rfl) (by kernel_rfl) (by kernel_rfl) rfl (by kernel_rfl)
def ti22 : TI := { u := (.slice 46), size := 1, bytes := 24, zero := [.slice none 0 0], plain := false, conc := true }
theorem tg22 : TGood Try.prog 22 ti22 := TGood.of_facts _ Try.underlying22 rfl Try.t22 (by kernel_rfl) rfl rfl _ rfl (by kernel_rfl) (by kernel_rfl) (by kernel_rfl) rfl (by kernel_rfl)
def ti23 : TI := { u := (.slice 51), size := 1, bytes := 24, zero := [.slice none 0 0], plain := false, conc := true }
theorem tg23 : TGood Try.prog 23 ti23 := TGood.of_facts _ Try.underlying23 rfl Try.t23 (by kernel_rfl) rfl rfl _ rfl (by kernel_rfl) (by kernel_rfl) (by kernel_rfl) rfl (by kernel_rfl)
def ti25 : TI := { u := (.struct [(0, 22), (1, 23)]), size := 2, bytes := 48, zero := [.slice none 0 0, .slice none 0 0], plain := false, conc := true }
theorem tg25 : TGood Try.prog 25 ti25 := TGood.of_facts _ Try.underlying25 ⟨_, rfl, rfl, by simp⟩ Try.t25 (by kernel_rfl) rfl rfl _ rfl (by kernel_rfl) (by kernel_rfl) (by kernel_rfl) rfl (by kernel_rfl)
def ti29 : TI := { u := (.slice 3), size := 1, bytes := 24, zero := [.slice none 0 0], plain := false, conc := true }
theorem tg29 : TGood Try.prog 29 ti29 := TGood.of_facts _ Try.underlying29 rfl Try.t29 (by kernel_rfl) rfl rfl _ rfl (by kernel_rfl) (by kernel_rfl) (by kernel_rfl) rfl (by kernel_rfl)
def ti40 : TI := { u := (.slice 87), size := 1, bytes := 24, zero := [.slice none 0 0], plain := false, conc := true }
theorem tg40 : TGood Try.prog 40 ti40 := TGood.of_facts _ Try.underlying40 rfl Try.t40 (by kernel_rfl) rfl rfl _ rfl (by kernel_rfl) (by kernel_rfl) (by kernel_rfl) rfl (by kernel_rfl)
def ti44 : TI := { u := (.struct [(0, 3), (1, 9), (2, 9)]), size := 3, bytes := 40, zero := [.int .i64 (0), .string ByteArray.empty, .string ByteArray.empty], plain := true, conc := true }
theorem tg44 : TGood Try.prog 44 ti44 := TGood.of_facts _ Try.underlying44 ⟨_, rfl, rfl, by simp⟩ Try.t44 (by kernel_rfl) rfl rfl _ rfl (by kernel_rfl) (by kernel_rfl) (by kernel_rfl) rfl (by kernel_rfl)
def ti46 : TI := { u := (.struct [(0, 3), (1, 44)]), size := 4, bytes := 48, zero := [.int .i64 (0), .int .i64 (0), .string ByteArray.empty, .string ByteArray.empty], plain := true, conc := true }
theorem tg46 : TGood Try.prog 46 ti46 := TGood.of_facts _ Try.underlying46 ⟨_, rfl, rfl, by simp⟩ Try.t46 (by kernel_rfl) rfl rfl _ rfl (by kernel_rfl) (by kernel_rfl) (by kernel_rfl) rfl (by kernel_rfl)
def ti49 : TI := { u := (.int .u64), size := 1, bytes := 8, zero := [.int .u64 (0)], plain := false, conc := true }
theorem tg49 : TGood Try.prog 49 ti49 := TGood.of_facts _ Try.underlying49 rfl Try.t49 (by kernel_rfl) rfl rfl _ rfl (by kernel_rfl) (by kernel_rfl) (by kernel_rfl) rfl (by kernel_rfl)
def ti51 : TI := { u := (.struct [(0, 3), (1, 44), (4, 49)]), size := 5, bytes := 56, zero := [.int .i64 (0), .int .i64 (0), .string ByteArray.empty, .string ByteArray.empty, .int .u64 (0)], plain := true, conc := true }
theorem tg51 : TGood Try.prog 51 ti51 := TGood.of_facts _ Try.underlying51 ⟨_, rfl, rfl, by simp⟩ Try.t51 (by kernel_rfl) rfl rfl _ rfl (by kernel_rfl) (by kernel_rfl) (by kernel_rfl) rfl (by kernel_rfl)
def ti52 : TI := { u := (.int .i64), size := 1, bytes := 8, zero := [.int .i64 (0)], plain := false, conc := true }
theorem tg52 : TGood Try.prog 52 ti52 := TGood.of_facts _ Try.underlying52 rfl Try.t52 (by kernel_rfl) rfl rfl _ rfl (by kernel_rfl) (by kernel_rfl) (by kernel_rfl) rfl (by kernel_rfl)
def ti57 : TI := { u := (.struct [(0, 25), (2, 3), (3, 44), (6, 3)]), size := 7, bytes := 104, zero := [.slice none 0 0, .slice none 0 0, .int .i64 (0), .int .i64 (0), .string ByteArray.empty, .string ByteArray.empty, .int .i64 (0)], plain := false, conc := true }
theorem tg57 : TGood Try.prog 57 ti57 := TGood.of_facts _ Try.underlying57 ⟨_, rfl, rfl, by simp⟩ Try.t57 (by kernel_rfl) rfl rfl _ rfl (by kernel_rfl) (by kernel_rfl) (by kernel_rfl) rfl (by kernel_rfl)
def ti60 : TI := { u := (.struct [(0, 25), (2, 3), (3, 44), (6, 49), (7, 3), (8, 25)]), size := 10, bytes := 160, zero := [.slice none 0 0, .slice none 0 0, .int .i64 (0), .int .i64 (0), .string ByteArray.empty, .string ByteArray.empty, .int .u64 (0), .int .i64 (0), .slice none 0 0, .slice none 0 0], plain := false, conc := true }
theorem tg60 : TGood Try.prog 60 ti60 := TGood.of_facts _ Try.underlying60 ⟨_, rfl, rfl, by simp⟩ Try.t60 (by kernel_rfl) rfl rfl _ rfl (by kernel_rfl) (by kernel_rfl) (by kernel_rfl) rfl (by kernel_rfl)
def ti70 : TI := { u := (.map 3 4), size := 1, bytes := 8, zero := [.map none], plain := false, conc := true }
theorem tg70 : TGood Try.prog 70 ti70 := TGood.of_facts _ Try.underlying70 rfl Try.t70 (by kernel_rfl) rfl rfl _ rfl (by kernel_rfl) (by kernel_rfl) (by kernel_rfl) rfl (by kernel_rfl)
def ti71 : TI := { u := (.array 2 29), size := 2, bytes := 48, zero := [.slice none 0 0, .slice none 0 0], plain := false, conc := true }
theorem tg71 : TGood Try.prog 71 ti71 := TGood.of_facts _ Try.underlying71 rfl Try.t71 (by kernel_rfl) rfl rfl _ rfl (by kernel_rfl) (by kernel_rfl) (by kernel_rfl) rfl (by kernel_rfl)
def ti74 : TI := { u := .func, size := 1, bytes := 8, zero := [.nilFunc], plain := false, conc := true }
theorem tg74 : TGood Try.prog 74 ti74 := TGood.of_facts _ Try.underlying74 ⟨_, _, _, rfl⟩ Try.t74 (by kernel_rfl) rfl rfl _ rfl (by kernel_rfl) (by kernel_rfl) (by kernel_rfl) rfl (by kernel_rfl)
def ti77 : TI := { u := .func, size := 1, bytes := 8, zero := [.nilFunc], plain := false, conc := true }
theorem tg77 : TGood Try.prog 77 ti77 := TGood.of_facts _ Try.underlying77 ⟨_, _, _, rfl⟩ Try.t77 (by kernel_rfl) rfl rfl _ rfl (by kernel_rfl) (by kernel_rfl) (by kernel_rfl) rfl (by kernel_rfl)
def ti83 : TI := { u := .func, size := 1, bytes := 8, zero := [.nilFunc], plain := false, conc := true }
theorem tg83 : TGood Try.prog 83 ti83 := TGood.of_facts _ Try.underlying83 ⟨_, _, _, rfl⟩ Try.t83 (by kernel_rfl) rfl rfl _ rfl (by kernel_rfl) (by kernel_rfl) (by kernel_rfl) rfl (by kernel_rfl)
def ti85 : TI := { u := .func, size := 1, bytes := 8, zero := [.nilFunc], plain := false, conc := true }
theorem tg85 : TGood Try.prog 85 ti85 := TGood.of_facts _ Try.underlying85 ⟨_, _, _, rfl⟩ Try.t85 (by kernel_rfl) rfl rfl _ rfl (by kernel_rfl) (by kernel_rfl) (by kernel_rfl) rfl (by kernel_rfl)
def ti87 : TI := { u := (.struct [(0, 3), (1, 3), (2, 44)]), size := 5, bytes := 56, zero := [.int .i64 (0), .int .i64 (0), .int .i64 (0), .string ByteArray.empty, .string ByteArray.empty], plain := true, conc := true }
theorem tg87 : TGood Try.prog 87 ti87 := TGood.of_facts _ Try.underlying87 ⟨_, rfl, rfl, by simp⟩ Try.t87 (by kernel_rfl) rfl rfl _ rfl (by kernel_rfl) (by kernel_rfl) (by kernel_rfl) rfl (by kernel_rfl)
def tys : Tys := [none, none, none, some ti3, some ti4, some ti5, none, none, none, some ti9, none, none, none, none, none, none, none, none, none, none, none, none, some ti22, some ti23, none, some ti25, none, none, none, some ti29, none, none, none, none, none, none, none, none, none, none, some ti40, none, none, none, some ti44, none, some ti46, none, none, some ti49, none, some ti51, some ti52, none, none, none, none, some ti57, none, none, some ti60, none, none, none, none, none, none, none, none, none, some ti70, some ti71, none, none, some ti74, none, none, some ti77, none, none, none, none, none, some ti83, none, some ti85, none, some ti87, none, none, none, none, none, none, none, none, none, none, none, none, none, none, none, none, none, none, none, none, none, none, none, none, none, none, none, none, none, none, none, none, none, none, none, none, none, none, none, none, none, none, none, none, none, none, none, none, none, none, none]
theorem tyOk : TyOk Try.prog tys := tyOk_of ⟨tg3, tg4, tg5, tg9, tg22, tg23, tg25, tg29, tg40, tg44, tg46, tg49, tg51, tg52, tg57, tg60, tg70, tg71, tg74, tg77, tg83, tg85, tg87, trivial⟩
theorem mixed : Try.prog.follows .mixedOrders = true := by kernel_rfl
end Go.Ab
