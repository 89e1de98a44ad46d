/- The types of the program, as the walks want them told; each is held against the program. Printed by a program of this session. -/
import Derived.Test.YtclmbdacfijifaaStAbsY
import Derived.Test.YtclmbdacfijifaaProg
import Derived.KernelRfl
namespace Go.Ab
open Go.Proofs
def ti1 : TI := { u := .func, size := 1, bytes := 8, zero := [.nilFunc], plain := false, conc := true }
theorem tg1 : TGood Try.prog 1 ti1 := TGood.of_facts _ Try.underlying1 ⟨_, _, _, rfl⟩ Try.t1 (by kernel_rfl) rfl rfl _ rfl (by kernel_rfl) (by kernel_rfl) (by kernel_rfl) rfl (by kernel_rfl)
def ti2 : TI := { u := (.int .i64), size := 1, bytes := 8, zero := [.int .i64 (0)], plain := false, conc := true }
theorem tg2 : TGood Try.prog 2 ti2 := TGood.of_facts _ Try.underlying2 rfl Try.t2 (by kernel_rfl) rfl rfl _ rfl (by kernel_rfl) (by kernel_rfl) (by kernel_rfl) rfl (by kernel_rfl)
def ti3 : TI := { u := (.int .i64), size := 1, bytes := 8, zero := [.int .i64 (0)], plain := false, conc := true }
theorem tg3 : TGood Try.prog 3 ti3 := TGood.of_facts _ Try.underlying3 rfl Try.t3 (by kernel_rfl) rfl rfl _ rfl (by kernel_rfl) (by kernel_rfl) (by kernel_rfl) rfl (by kernel_rfl)
def ti4 : TI := { u := .bool, size := 1, bytes := 1, zero := [.bool false], plain := false, conc := true }
theorem tg4 : TGood Try.prog 4 ti4 := TGood.of_facts _ Try.underlying4 rfl Try.t4 (by kernel_rfl) rfl rfl _ rfl (by kernel_rfl) (by kernel_rfl) (by kernel_rfl) rfl (by kernel_rfl)
def ti5 : TI := { u := (.int .u8), size := 1, bytes := 1, zero := [.int .u8 (0)], plain := false, conc := true }
theorem tg5 : TGood Try.prog 5 ti5 := TGood.of_facts _ Try.underlying5 rfl Try.t5 (by kernel_rfl) rfl rfl _ rfl (by kernel_rfl) (by kernel_rfl) (by kernel_rfl) rfl (by kernel_rfl)
def ti9 : TI := { u := .str, size := 1, bytes := 16, zero := [.string ByteArray.empty], plain := false, conc := true }
theorem tg9 : TGood Try.prog 9 ti9 := TGood.of_facts _ Try.underlying9 rfl Try.t9 (by kernel_rfl) rfl rfl _ rfl (by kernel_rfl) (by kernel_rfl) (by kernel_rfl) rfl (by kernel_rfl)
def ti12 : TI := { u := (.int .u64), size := 1, bytes := 8, zero := [.int .u64 (0)], plain := false, conc := true }
theorem tg12 : TGood Try.prog 12 ti12 := TGood.of_facts _ Try.underlying12 rfl Try.t12 (by kernel_rfl) rfl rfl _ rfl (by kernel_rfl) (by kernel_rfl) (by kernel_rfl) rfl (by kernel_rfl)
def ti20 : TI := { u := .iface, size := 1, bytes := 16, zero := [.nilIface], plain := false, conc := false }
theorem tg20 : TGood Try.prog 20 ti20 := TGood.of_facts _ Try.underlying20 ⟨_, rfl⟩ Try.t20 (by kernel_rfl) rfl rfl _ rfl (by kernel_rfl) (by kernel_rfl) (by kernel_rfl) rfl (by kernel_rfl)
def ti21 : TI := { u := (.int .i32), size := 1, bytes := 4, zero := [.int .i32 (0)], plain := false, conc := true }
theorem tg21 : TGood Try.prog 21 ti21 := TGood.of_facts _ Try.underlying21 rfl Try.t21 (by kernel_rfl) rfl rfl _ rfl (by kernel_rfl) (by kernel_rfl) (by kernel_rfl) rfl (by kernel_rfl)
def ti22 : TI := { u := (.slice 29), size := 1, bytes := 24, zero := [.slice none 0 0], plain := false, conc := true }
theorem tg22 : TGood Try.prog 22 ti22 := TGood.of_facts _ Try.underlying22 rfl Try.t22 (by kernel_rfl) rfl rfl _ rfl (by kernel_rfl) (by kernel_rfl) (by kernel_rfl) rfl (by kernel_rfl)
def ti23 : TI := { u := (.struct [(0, 22), (1, 3), (2, 3), (3, 4)]), size := 4, bytes := 48, zero := [.slice none 0 0, .int .i64 (0), .int .i64 (0), .bool false], plain := false, conc := true }
theorem tg23 : TGood Try.prog 23 ti23 := TGood.of_facts _ Try.underlying23 ⟨_, rfl, rfl, by simp⟩ Try.t23 (by kernel_rfl) rfl rfl _ rfl (by kernel_rfl) (by kernel_rfl) (by kernel_rfl) rfl (by kernel_rfl)
def ti24 : TI := { u := (.struct [(0, 22), (1, 3), (2, 3), (3, 4)]), size := 4, bytes := 48, zero := [.slice none 0 0, .int .i64 (0), .int .i64 (0), .bool false], plain := false, conc := true }
theorem tg24 : TGood Try.prog 24 ti24 := TGood.of_facts _ Try.underlying24 ⟨_, rfl, rfl, by simp⟩ Try.t24 (by kernel_rfl) rfl rfl _ rfl (by kernel_rfl) (by kernel_rfl) (by kernel_rfl) rfl (by kernel_rfl)
def ti25 : TI := { u := (.struct [(0, 24), (4, 9), (5, 9), (6, 3)]), size := 7, bytes := 88, zero := [.slice none 0 0, .int .i64 (0), .int .i64 (0), .bool false, .string ByteArray.empty, .string ByteArray.empty, .int .i64 (0)], plain := false, conc := true }
theorem tg25 : TGood Try.prog 25 ti25 := TGood.of_facts _ Try.underlying25 ⟨_, rfl, rfl, by simp⟩ Try.t25 (by kernel_rfl) rfl rfl _ rfl (by kernel_rfl) (by kernel_rfl) (by kernel_rfl) rfl (by kernel_rfl)
def ti26 : TI := { u := (.struct [(0, 24), (4, 9), (5, 9), (6, 3)]), size := 7, bytes := 88, zero := [.slice none 0 0, .int .i64 (0), .int .i64 (0), .bool false, .string ByteArray.empty, .string ByteArray.empty, .int .i64 (0)], plain := false, conc := true }
theorem tg26 : TGood Try.prog 26 ti26 := TGood.of_facts _ Try.underlying26 ⟨_, rfl, rfl, by simp⟩ Try.t26 (by kernel_rfl) rfl rfl _ rfl (by kernel_rfl) (by kernel_rfl) (by kernel_rfl) rfl (by kernel_rfl)
def ti27 : TI := { u := .func, size := 1, bytes := 8, zero := [.nilFunc], plain := false, conc := true }
theorem tg27 : TGood Try.prog 27 ti27 := TGood.of_facts _ Try.underlying27 ⟨_, _, _, rfl⟩ Try.t27 (by kernel_rfl) rfl rfl _ rfl (by kernel_rfl) (by kernel_rfl) (by kernel_rfl) rfl (by kernel_rfl)
def ti28 : TI := { u := (.struct [(0, 9), (1, 9), (2, 9)]), size := 3, bytes := 48, zero := [.string ByteArray.empty, .string ByteArray.empty, .string ByteArray.empty], plain := true, conc := true }
theorem tg28 : TGood Try.prog 28 ti28 := TGood.of_facts _ Try.underlying28 ⟨_, rfl, rfl, by simp⟩ Try.t28 (by kernel_rfl) rfl rfl _ rfl (by kernel_rfl) (by kernel_rfl) (by kernel_rfl) rfl (by kernel_rfl)
def ti29 : TI := { u := (.struct [(0, 9), (1, 9), (2, 9)]), size := 3, bytes := 48, zero := [.string ByteArray.empty, .string ByteArray.empty, .string ByteArray.empty], plain := true, conc := true }
theorem tg29 : TGood Try.prog 29 ti29 := TGood.of_facts _ Try.underlying29 ⟨_, rfl, rfl, by simp⟩ Try.t29 (by kernel_rfl) rfl rfl _ rfl (by kernel_rfl) (by kernel_rfl) (by kernel_rfl) rfl (by kernel_rfl)
def ti30 : TI := { u := (.int .i64), size := 1, bytes := 8, zero := [.int .i64 (0)], plain := false, conc := true }
theorem tg30 : TGood Try.prog 30 ti30 := TGood.of_facts _ Try.underlying30 rfl Try.t30 (by kernel_rfl) rfl rfl _ rfl (by kernel_rfl) (by kernel_rfl) (by kernel_rfl) rfl (by kernel_rfl)
def ti32 : TI := { u := .func, size := 1, bytes := 8, zero := [.nilFunc], plain := false, conc := true }
theorem tg32 : TGood Try.prog 32 ti32 := TGood.of_facts _ Try.underlying32 ⟨_, _, _, rfl⟩ Try.t32 (by kernel_rfl) rfl rfl _ rfl (by kernel_rfl) (by kernel_rfl) (by kernel_rfl) rfl (by kernel_rfl)
def ti34 : TI := { u := .func, size := 1, bytes := 8, zero := [.nilFunc], plain := false, conc := true }
theorem tg34 : TGood Try.prog 34 ti34 := TGood.of_facts _ Try.underlying34 ⟨_, _, _, rfl⟩ Try.t34 (by kernel_rfl) rfl rfl _ rfl (by kernel_rfl) (by kernel_rfl) (by kernel_rfl) rfl (by kernel_rfl)
def ti35 : TI := { u := .func, size := 1, bytes := 8, zero := [.nilFunc], plain := false, conc := true }
theorem tg35 : TGood Try.prog 35 ti35 := TGood.of_facts _ Try.underlying35 ⟨_, _, _, rfl⟩ Try.t35 (by kernel_rfl) rfl rfl _ rfl (by kernel_rfl) (by kernel_rfl) (by kernel_rfl) rfl (by kernel_rfl)
def ti36 : TI := { u := .func, size := 1, bytes := 8, zero := [.nilFunc], plain := false, conc := true }
theorem tg36 : TGood Try.prog 36 ti36 := TGood.of_facts _ Try.underlying36 ⟨_, _, _, rfl⟩ Try.t36 (by kernel_rfl) rfl rfl _ rfl (by kernel_rfl) (by kernel_rfl) (by kernel_rfl) rfl (by kernel_rfl)
def ti38 : TI := { u := .func, size := 1, bytes := 8, zero := [.nilFunc], plain := false, conc := true }
theorem tg38 : TGood Try.prog 38 ti38 := TGood.of_facts _ Try.underlying38 ⟨_, _, _, rfl⟩ Try.t38 (by kernel_rfl) rfl rfl _ rfl (by kernel_rfl) (by kernel_rfl) (by kernel_rfl) rfl (by kernel_rfl)
def ti40 : TI := { u := .func, size := 1, bytes := 8, zero := [.nilFunc], plain := false, conc := true }
theorem tg40 : TGood Try.prog 40 ti40 := TGood.of_facts _ Try.underlying40 ⟨_, _, _, rfl⟩ Try.t40 (by kernel_rfl) rfl rfl _ rfl (by kernel_rfl) (by kernel_rfl) (by kernel_rfl) rfl (by kernel_rfl)
def ti42 : TI := { u := .func, size := 1, bytes := 8, zero := [.nilFunc], plain := false, conc := true }
theorem tg42 : TGood Try.prog 42 ti42 := TGood.of_facts _ Try.underlying42 ⟨_, _, _, rfl⟩ Try.t42 (by kernel_rfl) rfl rfl _ rfl (by kernel_rfl) (by kernel_rfl) (by kernel_rfl) rfl (by kernel_rfl)
def ti43 : TI := { u := .func, size := 1, bytes := 8, zero := [.nilFunc], plain := false, conc := true }
theorem tg43 : TGood Try.prog 43 ti43 := TGood.of_facts _ Try.underlying43 ⟨_, _, _, rfl⟩ Try.t43 (by kernel_rfl) rfl rfl _ rfl (by kernel_rfl) (by kernel_rfl) (by kernel_rfl) rfl (by kernel_rfl)
def ti44 : TI := { u := .func, size := 1, bytes := 8, zero := [.nilFunc], plain := false, conc := true }
theorem tg44 : TGood Try.prog 44 ti44 := TGood.of_facts _ Try.underlying44 ⟨_, _, _, rfl⟩ Try.t44 (by kernel_rfl) rfl rfl _ rfl (by kernel_rfl) (by kernel_rfl) (by kernel_rfl) rfl (by kernel_rfl)
def ti45 : TI := { u := .func, size := 1, bytes := 8, zero := [.nilFunc], plain := false, conc := true }
theorem tg45 : TGood Try.prog 45 ti45 := TGood.of_facts _ Try.underlying45 ⟨_, _, _, rfl⟩ Try.t45 (by kernel_rfl) rfl rfl _ rfl (by kernel_rfl) (by kernel_rfl) (by kernel_rfl) rfl (by kernel_rfl)
def ti46 : TI := { u := .func, size := 1, bytes := 8, zero := [.nilFunc], plain := false, conc := true }
theorem tg46 : TGood Try.prog 46 ti46 := TGood.of_facts _ Try.underlying46 ⟨_, _, _, rfl⟩ Try.t46 (by kernel_rfl) rfl rfl _ rfl (by kernel_rfl) (by kernel_rfl) (by kernel_rfl) rfl (by kernel_rfl)
def ti47 : TI := { u := (.slice 3), size := 1, bytes := 24, zero := [.slice none 0 0], plain := false, conc := true }
theorem tg47 : TGood Try.prog 47 ti47 := TGood.of_facts _ Try.underlying47 rfl Try.t47 (by kernel_rfl) rfl rfl _ rfl (by kernel_rfl) (by kernel_rfl) (by kernel_rfl) rfl (by kernel_rfl)
def ti48 : TI := { u := (.struct [(0, 24), (4, 47), (5, 47), (6, 9)]), size := 7, bytes := 112, zero := [.slice none 0 0, .int .i64 (0), .int .i64 (0), .bool false, .slice none 0 0, .slice none 0 0, .string ByteArray.empty], plain := false, conc := true }
theorem tg48 : TGood Try.prog 48 ti48 := TGood.of_facts _ Try.underlying48 ⟨_, rfl, rfl, by simp⟩ Try.t48 (by kernel_rfl) rfl rfl _ rfl (by kernel_rfl) (by kernel_rfl) (by kernel_rfl) rfl (by kernel_rfl)
def ti49 : TI := { u := (.struct [(0, 24), (4, 47), (5, 47), (6, 9)]), size := 7, bytes := 112, zero := [.slice none 0 0, .int .i64 (0), .int .i64 (0), .bool false, .slice none 0 0, .slice none 0 0, .string ByteArray.empty], plain := false, conc := true }
theorem tg49 : TGood Try.prog 49 ti49 := TGood.of_facts _ Try.underlying49 ⟨_, rfl, rfl, by simp⟩ Try.t49 (by kernel_rfl) rfl rfl _ rfl (by kernel_rfl) (by kernel_rfl) (by kernel_rfl) rfl (by kernel_rfl)
def ti50 : TI := { u := .func, size := 1, bytes := 8, zero := [.nilFunc], plain := false, conc := true }
theorem tg50 : TGood Try.prog 50 ti50 := TGood.of_facts _ Try.underlying50 ⟨_, _, _, rfl⟩ Try.t50 (by kernel_rfl) rfl rfl _ rfl (by kernel_rfl) (by kernel_rfl) (by kernel_rfl) rfl (by kernel_rfl)
def ti51 : TI := { u := .func, size := 1, bytes := 8, zero := [.nilFunc], plain := false, conc := true }
theorem tg51 : TGood Try.prog 51 ti51 := TGood.of_facts _ Try.underlying51 ⟨_, _, _, rfl⟩ Try.t51 (by kernel_rfl) rfl rfl _ rfl (by kernel_rfl) (by kernel_rfl) (by kernel_rfl) rfl (by kernel_rfl)
def ti52 : TI := { u := (.slice 9), size := 1, bytes := 24, zero := [.slice none 0 0], plain := false, conc := true }
theorem tg52 : TGood Try.prog 52 ti52 := TGood.of_facts _ Try.underlying52 rfl Try.t52 (by kernel_rfl) rfl rfl _ rfl (by kernel_rfl) (by kernel_rfl) (by kernel_rfl) rfl (by kernel_rfl)
def ti53 : TI := { u := .func, size := 1, bytes := 8, zero := [.nilFunc], plain := false, conc := true }
theorem tg53 : TGood Try.prog 53 ti53 := TGood.of_facts _ Try.underlying53 ⟨_, _, _, rfl⟩ Try.t53 (by kernel_rfl) rfl rfl _ rfl (by kernel_rfl) (by kernel_rfl) (by kernel_rfl) rfl (by kernel_rfl)
def ti54 : TI := { u := .func, size := 1, bytes := 8, zero := [.nilFunc], plain := false, conc := true }
theorem tg54 : TGood Try.prog 54 ti54 := TGood.of_facts _ Try.underlying54 ⟨_, _, _, rfl⟩ Try.t54 (by kernel_rfl) rfl rfl _ rfl (by kernel_rfl) (by kernel_rfl) (by kernel_rfl) rfl (by kernel_rfl)
def ti55 : TI := { u := .func, size := 1, bytes := 8, zero := [.nilFunc], plain := false, conc := true }
theorem tg55 : TGood Try.prog 55 ti55 := TGood.of_facts _ Try.underlying55 ⟨_, _, _, rfl⟩ Try.t55 (by kernel_rfl) rfl rfl _ rfl (by kernel_rfl) (by kernel_rfl) (by kernel_rfl) rfl (by kernel_rfl)
def ti56 : TI := { u := (.slice 59), size := 1, bytes := 24, zero := [.slice none 0 0], plain := false, conc := true }
theorem tg56 : TGood Try.prog 56 ti56 := TGood.of_facts _ Try.underlying56 rfl Try.t56 (by kernel_rfl) rfl rfl _ rfl (by kernel_rfl) (by kernel_rfl) (by kernel_rfl) rfl (by kernel_rfl)
def ti57 : TI := { u := .func, size := 1, bytes := 8, zero := [.nilFunc], plain := false, conc := true }
theorem tg57 : TGood Try.prog 57 ti57 := TGood.of_facts _ Try.underlying57 ⟨_, _, _, rfl⟩ Try.t57 (by kernel_rfl) rfl rfl _ rfl (by kernel_rfl) (by kernel_rfl) (by kernel_rfl) rfl (by kernel_rfl)
def ti58 : TI := { u := (.struct [(0, 3), (1, 3), (2, 9), (3, 9)]), size := 4, bytes := 48, zero := [.int .i64 (0), .int .i64 (0), .string ByteArray.empty, .string ByteArray.empty], plain := true, conc := true }
theorem tg58 : TGood Try.prog 58 ti58 := TGood.of_facts _ Try.underlying58 ⟨_, rfl, rfl, by simp⟩ Try.t58 (by kernel_rfl) rfl rfl _ rfl (by kernel_rfl) (by kernel_rfl) (by kernel_rfl) rfl (by kernel_rfl)
def ti59 : TI := { u := (.struct [(0, 3), (1, 3), (2, 9), (3, 9)]), size := 4, bytes := 48, zero := [.int .i64 (0), .int .i64 (0), .string ByteArray.empty, .string ByteArray.empty], plain := true, conc := true }
theorem tg59 : TGood Try.prog 59 ti59 := TGood.of_facts _ Try.underlying59 ⟨_, rfl, rfl, by simp⟩ Try.t59 (by kernel_rfl) rfl rfl _ rfl (by kernel_rfl) (by kernel_rfl) (by kernel_rfl) rfl (by kernel_rfl)
def ti60 : TI := { u := .func, size := 1, bytes := 8, zero := [.nilFunc], plain := false, conc := true }
theorem tg60 : TGood Try.prog 60 ti60 := TGood.of_facts _ Try.underlying60 ⟨_, _, _, rfl⟩ Try.t60 (by kernel_rfl) rfl rfl _ rfl (by kernel_rfl) (by kernel_rfl) (by kernel_rfl) rfl (by kernel_rfl)
def ti61 : TI := { u := (.struct [(0, 3), (1, 56), (2, 9), (3, 56)]), size := 4, bytes := 72, zero := [.int .i64 (0), .slice none 0 0, .string ByteArray.empty, .slice none 0 0], plain := false, conc := true }
theorem tg61 : TGood Try.prog 61 ti61 := TGood.of_facts _ Try.underlying61 ⟨_, rfl, rfl, by simp⟩ Try.t61 (by kernel_rfl) rfl rfl _ rfl (by kernel_rfl) (by kernel_rfl) (by kernel_rfl) rfl (by kernel_rfl)
def ti62 : TI := { u := (.struct [(0, 3), (1, 56), (2, 9), (3, 56)]), size := 4, bytes := 72, zero := [.int .i64 (0), .slice none 0 0, .string ByteArray.empty, .slice none 0 0], plain := false, conc := true }
theorem tg62 : TGood Try.prog 62 ti62 := TGood.of_facts _ Try.underlying62 ⟨_, rfl, rfl, by simp⟩ Try.t62 (by kernel_rfl) rfl rfl _ rfl (by kernel_rfl) (by kernel_rfl) (by kernel_rfl) rfl (by kernel_rfl)
def ti63 : TI := { u := .func, size := 1, bytes := 8, zero := [.nilFunc], plain := false, conc := true }
theorem tg63 : TGood Try.prog 63 ti63 := TGood.of_facts _ Try.underlying63 ⟨_, _, _, rfl⟩ Try.t63 (by kernel_rfl) rfl rfl _ rfl (by kernel_rfl) (by kernel_rfl) (by kernel_rfl) rfl (by kernel_rfl)
def ti64 : TI := { u := .func, size := 1, bytes := 8, zero := [.nilFunc], plain := false, conc := true }
theorem tg64 : TGood Try.prog 64 ti64 := TGood.of_facts _ Try.underlying64 ⟨_, _, _, rfl⟩ Try.t64 (by kernel_rfl) rfl rfl _ rfl (by kernel_rfl) (by kernel_rfl) (by kernel_rfl) rfl (by kernel_rfl)
def ti65 : TI := { u := (.struct [(0, 24), (4, 9), (5, 9), (6, 47), (7, 3), (8, 24)]), size := 12, bytes := 160, zero := [.slice none 0 0, .int .i64 (0), .int .i64 (0), .bool false, .string ByteArray.empty, .string ByteArray.empty, .slice none 0 0, .int .i64 (0), .slice none 0 0, .int .i64 (0), .int .i64 (0), .bool false], plain := false, conc := true }
theorem tg65 : TGood Try.prog 65 ti65 := TGood.of_facts _ Try.underlying65 ⟨_, rfl, rfl, by simp⟩ Try.t65 (by kernel_rfl) rfl rfl _ rfl (by kernel_rfl) (by kernel_rfl) (by kernel_rfl) rfl (by kernel_rfl)
def ti66 : TI := { u := (.struct [(0, 24), (4, 9), (5, 9), (6, 47), (7, 3), (8, 24)]), size := 12, bytes := 160, zero := [.slice none 0 0, .int .i64 (0), .int .i64 (0), .bool false, .string ByteArray.empty, .string ByteArray.empty, .slice none 0 0, .int .i64 (0), .slice none 0 0, .int .i64 (0), .int .i64 (0), .bool false], plain := false, conc := true }
theorem tg66 : TGood Try.prog 66 ti66 := TGood.of_facts _ Try.underlying66 ⟨_, rfl, rfl, by simp⟩ Try.t66 (by kernel_rfl) rfl rfl _ rfl (by kernel_rfl) (by kernel_rfl) (by kernel_rfl) rfl (by kernel_rfl)
def ti67 : TI := { u := .func, size := 1, bytes := 8, zero := [.nilFunc], plain := false, conc := true }
theorem tg67 : TGood Try.prog 67 ti67 := TGood.of_facts _ Try.underlying67 ⟨_, _, _, rfl⟩ Try.t67 (by kernel_rfl) rfl rfl _ rfl (by kernel_rfl) (by kernel_rfl) (by kernel_rfl) rfl (by kernel_rfl)
def ti68 : TI := { u := .func, size := 1, bytes := 8, zero := [.nilFunc], plain := false, conc := true }
theorem tg68 : TGood Try.prog 68 ti68 := TGood.of_facts _ Try.underlying68 ⟨_, _, _, rfl⟩ Try.t68 (by kernel_rfl) rfl rfl _ rfl (by kernel_rfl) (by kernel_rfl) (by kernel_rfl) rfl (by kernel_rfl)
def ti69 : TI := { u := .func, size := 1, bytes := 8, zero := [.nilFunc], plain := false, conc := true }
theorem tg69 : TGood Try.prog 69 ti69 := TGood.of_facts _ Try.underlying69 ⟨_, _, _, rfl⟩ Try.t69 (by kernel_rfl) rfl rfl _ rfl (by kernel_rfl) (by kernel_rfl) (by kernel_rfl) rfl (by kernel_rfl)
def ti70 : TI := { u := .func, size := 1, bytes := 8, zero := [.nilFunc], plain := false, conc := true }
theorem tg70 : TGood Try.prog 70 ti70 := TGood.of_facts _ Try.underlying70 ⟨_, _, _, rfl⟩ Try.t70 (by kernel_rfl) rfl rfl _ rfl (by kernel_rfl) (by kernel_rfl) (by kernel_rfl) rfl (by kernel_rfl)
def ti71 : TI := { u := .func, size := 1, bytes := 8, zero := [.nilFunc], plain := false, conc := true }
theorem tg71 : TGood Try.prog 71 ti71 := TGood.of_facts _ Try.underlying71 ⟨_, _, _, rfl⟩ Try.t71 (by kernel_rfl) rfl rfl _ rfl (by kernel_rfl) (by kernel_rfl) (by kernel_rfl) rfl (by kernel_rfl)
def ti72 : TI := { u := .func, size := 1, bytes := 8, zero := [.nilFunc], plain := false, conc := true }
theorem tg72 : TGood Try.prog 72 ti72 := TGood.of_facts _ Try.underlying72 ⟨_, _, _, rfl⟩ Try.t72 (by kernel_rfl) rfl rfl _ rfl (by kernel_rfl) (by kernel_rfl) (by kernel_rfl) rfl (by kernel_rfl)
def ti73 : TI := { u := .func, size := 1, bytes := 8, zero := [.nilFunc], plain := false, conc := true }
theorem tg73 : TGood Try.prog 73 ti73 := TGood.of_facts _ Try.underlying73 ⟨_, _, _, rfl⟩ Try.t73 (by kernel_rfl) rfl rfl _ rfl (by kernel_rfl) (by kernel_rfl) (by kernel_rfl) rfl (by kernel_rfl)
def ti74 : TI := { u := .func, size := 1, bytes := 8, zero := [.nilFunc], plain := false, conc := true }
theorem tg74 : TGood Try.prog 74 ti74 := TGood.of_facts _ Try.underlying74 ⟨_, _, _, rfl⟩ Try.t74 (by kernel_rfl) rfl rfl _ rfl (by kernel_rfl) (by kernel_rfl) (by kernel_rfl) rfl (by kernel_rfl)
def ti76 : TI := { u := .func, size := 1, bytes := 8, zero := [.nilFunc], plain := false, conc := true }
theorem tg76 : TGood Try.prog 76 ti76 := TGood.of_facts _ Try.underlying76 ⟨_, _, _, rfl⟩ Try.t76 (by kernel_rfl) rfl rfl _ rfl (by kernel_rfl) (by kernel_rfl) (by kernel_rfl) rfl (by kernel_rfl)
def ti77 : TI := { u := .func, size := 1, bytes := 8, zero := [.nilFunc], plain := false, conc := true }
theorem tg77 : TGood Try.prog 77 ti77 := TGood.of_facts _ Try.underlying77 ⟨_, _, _, rfl⟩ Try.t77 (by kernel_rfl) rfl rfl _ rfl (by kernel_rfl) (by kernel_rfl) (by kernel_rfl) rfl (by kernel_rfl)
def ti78 : TI := { u := .func, size := 1, bytes := 8, zero := [.nilFunc], plain := false, conc := true }
theorem tg78 : TGood Try.prog 78 ti78 := TGood.of_facts _ Try.underlying78 ⟨_, _, _, rfl⟩ Try.t78 (by kernel_rfl) rfl rfl _ rfl (by kernel_rfl) (by kernel_rfl) (by kernel_rfl) rfl (by kernel_rfl)
def ti79 : TI := { u := .func, size := 1, bytes := 8, zero := [.nilFunc], plain := false, conc := true }
theorem tg79 : TGood Try.prog 79 ti79 := TGood.of_facts _ Try.underlying79 ⟨_, _, _, rfl⟩ Try.t79 (by kernel_rfl) rfl rfl _ rfl (by kernel_rfl) (by kernel_rfl) (by kernel_rfl) rfl (by kernel_rfl)
def ti80 : TI := { u := .func, size := 1, bytes := 8, zero := [.nilFunc], plain := false, conc := true }
theorem tg80 : TGood Try.prog 80 ti80 := TGood.of_facts _ Try.underlying80 ⟨_, _, _, rfl⟩ Try.t80 (by kernel_rfl) rfl rfl _ rfl (by kernel_rfl) (by kernel_rfl) (by kernel_rfl) rfl (by kernel_rfl)
def ti86 : TI := { u := .func, size := 1, bytes := 8, zero := [.nilFunc], plain := false, conc := true }
theorem tg86 : TGood Try.prog 86 ti86 := TGood.of_facts _ Try.underlying86 ⟨_, _, _, rfl⟩ Try.t86 (by kernel_rfl) rfl rfl _ rfl (by kernel_rfl) (by kernel_rfl) (by kernel_rfl) rfl (by kernel_rfl)
def ti87 : TI := { u := (.int .u32), size := 1, bytes := 4, zero := [.int .u32 (0)], plain := false, conc := true }
theorem tg87 : TGood Try.prog 87 ti87 := TGood.of_facts _ Try.underlying87 rfl Try.t87 (by kernel_rfl) rfl rfl _ rfl (by kernel_rfl) (by kernel_rfl) (by kernel_rfl) rfl (by kernel_rfl)
def ti90 : TI := { u := .func, size := 1, bytes := 8, zero := [.nilFunc], plain := false, conc := true }
theorem tg90 : TGood Try.prog 90 ti90 := TGood.of_facts _ Try.underlying90 ⟨_, _, _, rfl⟩ Try.t90 (by kernel_rfl) rfl rfl _ rfl (by kernel_rfl) (by kernel_rfl) (by kernel_rfl) rfl (by kernel_rfl)
def ti91 : TI := { u := .ptr, size := 1, bytes := 8, zero := [.pointer none], plain := false, conc := true }
theorem tg91 : TGood Try.prog 91 ti91 := TGood.of_facts _ Try.underlying91 ⟨_, rfl⟩ Try.t91 (by kernel_rfl) rfl rfl _ rfl (by kernel_rfl) (by kernel_rfl) (by kernel_rfl) rfl (by kernel_rfl)
def ti94 : TI := { u := (.struct [(0, 12), (1, 12), (2, 87), (3, 88), (4, 5), (5, 5), (6, 89), (7, 90), (8, 91), (9, 92), (10, 93)]), size := 11, bytes := 48, zero := [.int .u64 (0), .int .u64 (0), .int .u32 (0), .int .u8 (0), .int .u8 (0), .int .u8 (0), .int .u8 (0), .nilFunc, .pointer none, .int .i32 (0), .int .i32 (0)], plain := false, conc := true }
theorem tg94 : TGood Try.prog 94 ti94 := TGood.of_facts _ Try.underlying94 ⟨_, rfl, rfl, by simp⟩ Try.t94 (by kernel_rfl) rfl rfl _ rfl (by kernel_rfl) (by kernel_rfl) (by kernel_rfl) rfl (by kernel_rfl)
def tys : Tys := [none, some ti1, some ti2, some ti3, some ti4, some ti5, none, none, none, some ti9, none, none, some ti12, none, none, none, none, none, none, none, some ti20, some ti21, some ti22, some ti23, some ti24, some ti25, some ti26, some ti27, some ti28, some ti29, some ti30, none, some ti32, none, some ti34, some ti35, some ti36, none, some ti38, none, some ti40, none, some ti42, some ti43, some ti44, some ti45, some ti46, some ti47, some ti48, some ti49, some ti50, some ti51, some ti52, some ti53, some ti54, some ti55, some ti56, some ti57, some ti58, some ti59, some ti60, some ti61, some ti62, some ti63, some ti64, some ti65, some ti66, some ti67, some ti68, some ti69, some ti70, some ti71, some ti72, some ti73, some ti74, none, some ti76, some ti77, some ti78, some ti79, some ti80, none, none, none, none, none, some ti86, some ti87, none, none, some ti90, some ti91, none, none, some ti94, none, none]
theorem tyOk : TyOk Try.prog tys := tyOk_of ⟨tg1, tg2, tg3, tg4, tg5, tg9, tg12, tg20, tg21, tg22, tg23, tg24, tg25, tg26, tg27, tg28, tg29, tg30, tg32, tg34, tg35, tg36, tg38, tg40, tg42, tg43, tg44, tg45, tg46, tg47, tg48, tg49, tg50, tg51, tg52, tg53, tg54, tg55, tg56, tg57, tg58, tg59, tg60, tg61, tg62, tg63, tg64, tg65, tg66, tg67, tg68, tg69, tg70, tg71, tg72, tg73, tg74, tg76, tg77, tg78, tg79, tg80, tg86, tg87, tg90, tg91, tg94, trivial⟩
theorem mixed : Try.prog.follows .mixedOrders = true := by kernel_rfl
end Go.Ab
