/- The types of the program, as the walks want them told; each is held against the program. Printed by a program of this session. -/
import Derived.Test.YtgmejofagmfcfaaGreatDoorStFwD
import Derived.Test.YtgmejofagmfcfaaGreatDoorProg
import Derived.KernelRfl
namespace Go.Ab
open Go.Proofs
def ti3 : TI := { u := (.int .i64), size := 1, bytes := 8, zero := [.int .i64 (0)], plain := false, conc := true }
theorem tg3 : TGood Tryz.prog 3 ti3 := TGood.of_facts _ Tryz.underlying3 rfl Tryz.t3 (by kernel_rfl) rfl rfl _ rfl (by kernel_rfl) (by kernel_rfl) (by kernel_rfl) rfl (by kernel_rfl)
def ti4 : TI := { u := .bool, size := 1, bytes := 1, zero := [.bool false], plain := false, conc := true }
theorem tg4 : TGood Tryz.prog 4 ti4 := TGood.of_facts _ Tryz.underlying4 rfl Tryz.t4 (by kernel_rfl) rfl rfl _ rfl (by kernel_rfl) (by kernel_rfl) (by kernel_rfl) rfl (by kernel_rfl)
def ti5 : TI := { u := (.int .u8), size := 1, bytes := 1, zero := [.int .u8 (0)], plain := false, conc := true }
theorem tg5 : TGood Tryz.prog 5 ti5 := TGood.of_facts _ Tryz.underlying5 rfl Tryz.t5 (by kernel_rfl) rfl rfl _ rfl (by kernel_rfl) (by kernel_rfl) (by kernel_rfl) rfl (by kernel_rfl)
def ti9 : TI := { u := .str, size := 1, bytes := 16, zero := [.string ByteArray.empty], plain := false, conc := true }
theorem tg9 : TGood Tryz.prog 9 ti9 := TGood.of_facts _ Tryz.underlying9 rfl Tryz.t9 (by kernel_rfl) rfl rfl _ rfl (by kernel_rfl) (by kernel_rfl) (by kernel_rfl) rfl (by kernel_rfl)
def ti20 : TI := { u := .iface, size := 1, bytes := 16, zero := [.nilIface], plain := false, conc := false }
theorem tg20 : TGood Tryz.prog 20 ti20 := TGood.of_facts _ Tryz.underlying20 ⟨_, rfl⟩ Tryz.t20 (by kernel_rfl) rfl rfl _ rfl (by kernel_rfl) (by kernel_rfl) (by kernel_rfl) rfl (by kernel_rfl)
def ti22 : TI := { u := (.slice 25), size := 1, bytes := 24, zero := [.slice none 0 0], plain := false, conc := true }
theorem tg22 : TGood Tryz.prog 22 ti22 := TGood.of_facts _ Tryz.underlying22 rfl Tryz.t22 (by kernel_rfl) rfl rfl _ rfl (by kernel_rfl) (by kernel_rfl) (by kernel_rfl) rfl (by kernel_rfl)
def ti23 : TI := { u := (.slice 88), size := 1, bytes := 24, zero := [.slice none 0 0], plain := false, conc := true }
theorem tg23 : TGood Tryz.prog 23 ti23 := TGood.of_facts _ Tryz.underlying23 rfl Tryz.t23 (by kernel_rfl) rfl rfl _ rfl (by kernel_rfl) (by kernel_rfl) (by kernel_rfl) rfl (by kernel_rfl)
def ti25 : TI := { u := (.struct [(0, 3), (1, 9), (2, 23)]), size := 3, bytes := 48, zero := [.int .i64 (0), .string ByteArray.empty, .slice none 0 0], plain := false, conc := true }
theorem tg25 : TGood Tryz.prog 25 ti25 := TGood.of_facts _ Tryz.underlying25 ⟨_, rfl, rfl, by simp⟩ Tryz.t25 (by kernel_rfl) rfl rfl _ rfl (by kernel_rfl) (by kernel_rfl) (by kernel_rfl) rfl (by kernel_rfl)
def ti27 : TI := { u := (.struct [(0, 3), (1, 22), (2, 25), (5, 25)]), size := 8, bytes := 128, zero := [.int .i64 (0), .slice none 0 0, .int .i64 (0), .string ByteArray.empty, .slice none 0 0, .int .i64 (0), .string ByteArray.empty, .slice none 0 0], plain := false, conc := true }
theorem tg27 : TGood Tryz.prog 27 ti27 := TGood.of_facts _ Tryz.underlying27 ⟨_, rfl, rfl, by simp⟩ Tryz.t27 (by kernel_rfl) rfl rfl _ rfl (by kernel_rfl) (by kernel_rfl) (by kernel_rfl) rfl (by kernel_rfl)
def ti29 : TI := { u := (.slice 64), size := 1, bytes := 24, zero := [.slice none 0 0], plain := false, conc := true }
theorem tg29 : TGood Tryz.prog 29 ti29 := TGood.of_facts _ Tryz.underlying29 rfl Tryz.t29 (by kernel_rfl) rfl rfl _ rfl (by kernel_rfl) (by kernel_rfl) (by kernel_rfl) rfl (by kernel_rfl)
def ti31 : TI := { u := (.struct [(0, 29), (1, 3), (2, 3), (3, 4)]), size := 4, bytes := 48, zero := [.slice none 0 0, .int .i64 (0), .int .i64 (0), .bool false], plain := false, conc := true }
theorem tg31 : TGood Tryz.prog 31 ti31 := TGood.of_facts _ Tryz.underlying31 ⟨_, rfl, rfl, by simp⟩ Tryz.t31 (by kernel_rfl) rfl rfl _ rfl (by kernel_rfl) (by kernel_rfl) (by kernel_rfl) rfl (by kernel_rfl)
def ti34 : TI := { u := (.slice 90), size := 1, bytes := 24, zero := [.slice none 0 0], plain := false, conc := true }
theorem tg34 : TGood Tryz.prog 34 ti34 := TGood.of_facts _ Tryz.underlying34 rfl Tryz.t34 (by kernel_rfl) rfl rfl _ rfl (by kernel_rfl) (by kernel_rfl) (by kernel_rfl) rfl (by kernel_rfl)
def ti36 : TI := { u := (.struct [(0, 34), (1, 34)]), size := 2, bytes := 48, zero := [.slice none 0 0, .slice none 0 0], plain := false, conc := true }
theorem tg36 : TGood Tryz.prog 36 ti36 := TGood.of_facts _ Tryz.underlying36 ⟨_, rfl, rfl, by simp⟩ Tryz.t36 (by kernel_rfl) rfl rfl _ rfl (by kernel_rfl) (by kernel_rfl) (by kernel_rfl) rfl (by kernel_rfl)
def ti38 : TI := { u := (.struct [(0, 31), (4, 3), (5, 3), (6, 3), (7, 36), (9, 4)]), size := 10, bytes := 128, zero := [.slice none 0 0, .int .i64 (0), .int .i64 (0), .bool false, .int .i64 (0), .int .i64 (0), .int .i64 (0), .slice none 0 0, .slice none 0 0, .bool false], plain := false, conc := true }
theorem tg38 : TGood Tryz.prog 38 ti38 := TGood.of_facts _ Tryz.underlying38 ⟨_, rfl, rfl, by simp⟩ Tryz.t38 (by kernel_rfl) rfl rfl _ rfl (by kernel_rfl) (by kernel_rfl) (by kernel_rfl) rfl (by kernel_rfl)
def ti39 : TI := { u := (.int .i64), size := 1, bytes := 8, zero := [.int .i64 (0)], plain := false, conc := true }
theorem tg39 : TGood Tryz.prog 39 ti39 := TGood.of_facts _ Tryz.underlying39 rfl Tryz.t39 (by kernel_rfl) rfl rfl _ rfl (by kernel_rfl) (by kernel_rfl) (by kernel_rfl) rfl (by kernel_rfl)
def ti64 : TI := { u := (.struct [(0, 9), (1, 9), (2, 9)]), size := 3, bytes := 48, zero := [.string ByteArray.empty, .string ByteArray.empty, .string ByteArray.empty], plain := true, conc := true }
theorem tg64 : TGood Tryz.prog 64 ti64 := TGood.of_facts _ Tryz.underlying64 ⟨_, rfl, rfl, by simp⟩ Tryz.t64 (by kernel_rfl) rfl rfl _ rfl (by kernel_rfl) (by kernel_rfl) (by kernel_rfl) rfl (by kernel_rfl)
def ti68 : TI := { u := (.slice 72), size := 1, bytes := 24, zero := [.slice none 0 0], plain := false, conc := true }
theorem tg68 : TGood Tryz.prog 68 ti68 := TGood.of_facts _ Tryz.underlying68 rfl Tryz.t68 (by kernel_rfl) rfl rfl _ rfl (by kernel_rfl) (by kernel_rfl) (by kernel_rfl) rfl (by kernel_rfl)
def ti70 : TI := { u := (.struct [(0, 38), (10, 22), (11, 3)]), size := 12, bytes := 160, zero := [.slice none 0 0, .int .i64 (0), .int .i64 (0), .bool false, .int .i64 (0), .int .i64 (0), .int .i64 (0), .slice none 0 0, .slice none 0 0, .bool false, .slice none 0 0, .int .i64 (0)], plain := false, conc := true }
theorem tg70 : TGood Tryz.prog 70 ti70 := TGood.of_facts _ Tryz.underlying70 ⟨_, rfl, rfl, by simp⟩ Tryz.t70 (by kernel_rfl) rfl rfl _ rfl (by kernel_rfl) (by kernel_rfl) (by kernel_rfl) rfl (by kernel_rfl)
def ti72 : TI := { u := (.struct [(0, 3), (1, 3), (2, 25)]), size := 5, bytes := 64, zero := [.int .i64 (0), .int .i64 (0), .int .i64 (0), .string ByteArray.empty, .slice none 0 0], plain := false, conc := true }
theorem tg72 : TGood Tryz.prog 72 ti72 := TGood.of_facts _ Tryz.underlying72 ⟨_, rfl, rfl, by simp⟩ Tryz.t72 (by kernel_rfl) rfl rfl _ rfl (by kernel_rfl) (by kernel_rfl) (by kernel_rfl) rfl (by kernel_rfl)
def ti74 : TI := { u := (.slice 3), size := 1, bytes := 24, zero := [.slice none 0 0], plain := false, conc := true }
theorem tg74 : TGood Tryz.prog 74 ti74 := TGood.of_facts _ Tryz.underlying74 rfl Tryz.t74 (by kernel_rfl) rfl rfl _ rfl (by kernel_rfl) (by kernel_rfl) (by kernel_rfl) rfl (by kernel_rfl)
def ti78 : TI := { u := (.struct [(0, 3), (1, 22), (2, 3), (3, 74)]), size := 4, bytes := 64, zero := [.int .i64 (0), .slice none 0 0, .int .i64 (0), .slice none 0 0], plain := false, conc := true }
theorem tg78 : TGood Tryz.prog 78 ti78 := TGood.of_facts _ Tryz.underlying78 ⟨_, rfl, rfl, by simp⟩ Tryz.t78 (by kernel_rfl) rfl rfl _ rfl (by kernel_rfl) (by kernel_rfl) (by kernel_rfl) rfl (by kernel_rfl)
def ti88 : TI := { u := (.struct [(0, 9), (1, 9), (2, 4)]), size := 3, bytes := 40, zero := [.string ByteArray.empty, .string ByteArray.empty, .bool false], plain := true, conc := true }
theorem tg88 : TGood Tryz.prog 88 ti88 := TGood.of_facts _ Tryz.underlying88 ⟨_, rfl, rfl, by simp⟩ Tryz.t88 (by kernel_rfl) rfl rfl _ rfl (by kernel_rfl) (by kernel_rfl) (by kernel_rfl) rfl (by kernel_rfl)
def ti90 : TI := { u := (.struct [(0, 9), (1, 9)]), size := 2, bytes := 32, zero := [.string ByteArray.empty, .string ByteArray.empty], plain := true, conc := true }
theorem tg90 : TGood Tryz.prog 90 ti90 := TGood.of_facts _ Tryz.underlying90 ⟨_, rfl, rfl, by simp⟩ Tryz.t90 (by kernel_rfl) rfl rfl _ rfl (by kernel_rfl) (by kernel_rfl) (by kernel_rfl) rfl (by kernel_rfl)
def ti95 : TI := { u := (.slice 9), size := 1, bytes := 24, zero := [.slice none 0 0], plain := false, conc := true }
theorem tg95 : TGood Tryz.prog 95 ti95 := TGood.of_facts _ Tryz.underlying95 rfl Tryz.t95 (by kernel_rfl) rfl rfl _ rfl (by kernel_rfl) (by kernel_rfl) (by kernel_rfl) rfl (by kernel_rfl)
def ti107 : TI := { u := .iface, size := 1, bytes := 16, zero := [.nilIface], plain := false, conc := false }
theorem tg107 : TGood Tryz.prog 107 ti107 := TGood.of_facts _ Tryz.underlying107 ⟨_, rfl⟩ Tryz.t107 (by kernel_rfl) rfl rfl _ rfl (by kernel_rfl) (by kernel_rfl) (by kernel_rfl) rfl (by kernel_rfl)
def ti129 : TI := { u := (.int .u64), size := 1, bytes := 8, zero := [.int .u64 (0)], plain := false, conc := true }
theorem tg129 : TGood Tryz.prog 129 ti129 := TGood.of_facts _ Tryz.underlying129 rfl Tryz.t129 (by kernel_rfl) rfl rfl _ rfl (by kernel_rfl) (by kernel_rfl) (by kernel_rfl) rfl (by kernel_rfl)
def ti141 : TI := { u := (.array 2 9), size := 2, bytes := 32, zero := [.string ByteArray.empty, .string ByteArray.empty], plain := false, conc := true }
theorem tg141 : TGood Tryz.prog 141 ti141 := TGood.of_facts _ Tryz.underlying141 rfl Tryz.t141 (by kernel_rfl) rfl rfl _ rfl (by kernel_rfl) (by kernel_rfl) (by kernel_rfl) rfl (by kernel_rfl)
def ti142 : TI := { u := (.slice 141), size := 1, bytes := 24, zero := [.slice none 0 0], plain := false, conc := true }
theorem tg142 : TGood Tryz.prog 142 ti142 := TGood.of_facts _ Tryz.underlying142 rfl Tryz.t142 (by kernel_rfl) rfl rfl _ rfl (by kernel_rfl) (by kernel_rfl) (by kernel_rfl) rfl (by kernel_rfl)
def ti163 : TI := { u := .ptr, size := 1, bytes := 8, zero := [.pointer none], plain := false, conc := true }
theorem tg163 : TGood Tryz.prog 163 ti163 := TGood.of_facts _ Tryz.underlying163 ⟨_, rfl⟩ Tryz.t163 (by kernel_rfl) rfl rfl _ rfl (by kernel_rfl) (by kernel_rfl) (by kernel_rfl) rfl (by kernel_rfl)
def ti164 : TI := { u := .func, size := 1, bytes := 8, zero := [.nilFunc], plain := false, conc := true }
theorem tg164 : TGood Tryz.prog 164 ti164 := TGood.of_facts _ Tryz.underlying164 ⟨_, _, _, rfl⟩ Tryz.t164 (by kernel_rfl) rfl rfl _ rfl (by kernel_rfl) (by kernel_rfl) (by kernel_rfl) rfl (by kernel_rfl)
def ti165 : TI := { u := .func, size := 1, bytes := 8, zero := [.nilFunc], plain := false, conc := true }
theorem tg165 : TGood Tryz.prog 165 ti165 := TGood.of_facts _ Tryz.underlying165 ⟨_, _, _, rfl⟩ Tryz.t165 (by kernel_rfl) rfl rfl _ rfl (by kernel_rfl) (by kernel_rfl) (by kernel_rfl) rfl (by kernel_rfl)
def ti167 : TI := { u := (.struct [(0, 9), (1, 4), (2, 164), (3, 165)]), size := 4, bytes := 40, zero := [.string ByteArray.empty, .bool false, .nilFunc, .nilFunc], plain := false, conc := true }
theorem tg167 : TGood Tryz.prog 167 ti167 := TGood.of_facts _ Tryz.underlying167 ⟨_, rfl, rfl, by simp⟩ Tryz.t167 (by kernel_rfl) rfl rfl _ rfl (by kernel_rfl) (by kernel_rfl) (by kernel_rfl) rfl (by kernel_rfl)
def ti168 : TI := { u := .ptr, size := 1, bytes := 8, zero := [.pointer none], plain := false, conc := true }
theorem tg168 : TGood Tryz.prog 168 ti168 := TGood.of_facts _ Tryz.underlying168 ⟨_, rfl⟩ Tryz.t168 (by kernel_rfl) rfl rfl _ rfl (by kernel_rfl) (by kernel_rfl) (by kernel_rfl) rfl (by kernel_rfl)
def ti169 : TI := { u := (.slice 5), size := 1, bytes := 24, zero := [.slice none 0 0], plain := false, conc := true }
theorem tg169 : TGood Tryz.prog 169 ti169 := TGood.of_facts _ Tryz.underlying169 rfl Tryz.t169 (by kernel_rfl) rfl rfl _ rfl (by kernel_rfl) (by kernel_rfl) (by kernel_rfl) rfl (by kernel_rfl)
def ti171 : TI := { u := (.struct [(0, 168), (1, 169)]), size := 2, bytes := 32, zero := [.pointer none, .slice none 0 0], plain := false, conc := true }
theorem tg171 : TGood Tryz.prog 171 ti171 := TGood.of_facts _ Tryz.underlying171 ⟨_, rfl, rfl, by simp⟩ Tryz.t171 (by kernel_rfl) rfl rfl _ rfl (by kernel_rfl) (by kernel_rfl) (by kernel_rfl) rfl (by kernel_rfl)
def ti178 : TI := { u := (.struct []), size := 0, bytes := 0, zero := [], plain := true, conc := true }
theorem tg178 : TGood Tryz.prog 178 ti178 := TGood.of_facts _ Tryz.underlying178 ⟨_, rfl, rfl, by simp⟩ Tryz.t178 (by kernel_rfl) rfl rfl _ rfl (by kernel_rfl) (by kernel_rfl) (by kernel_rfl) rfl (by kernel_rfl)
def ti180 : TI := { u := (.struct [(0, 39), (1, 107)]), size := 2, bytes := 24, zero := [.int .i64 (0), .nilIface], plain := false, conc := true }
theorem tg180 : TGood Tryz.prog 180 ti180 := TGood.of_facts _ Tryz.underlying180 ⟨_, rfl, rfl, by simp⟩ Tryz.t180 (by kernel_rfl) rfl rfl _ rfl (by kernel_rfl) (by kernel_rfl) (by kernel_rfl) rfl (by kernel_rfl)
def ti182 : TI := { u := .ptr, size := 1, bytes := 8, zero := [.pointer none], plain := false, conc := true }
theorem tg182 : TGood Tryz.prog 182 ti182 := TGood.of_facts _ Tryz.underlying182 ⟨_, rfl⟩ Tryz.t182 (by kernel_rfl) rfl rfl _ rfl (by kernel_rfl) (by kernel_rfl) (by kernel_rfl) rfl (by kernel_rfl)
def ti188 : TI := { u := (.int .u32), size := 1, bytes := 4, zero := [.int .u32 (0)], plain := false, conc := true }
theorem tg188 : TGood Tryz.prog 188 ti188 := TGood.of_facts _ Tryz.underlying188 rfl Tryz.t188 (by kernel_rfl) rfl rfl _ rfl (by kernel_rfl) (by kernel_rfl) (by kernel_rfl) rfl (by kernel_rfl)
def ti193 : TI := { u := (.array 21 5), size := 21, bytes := 21, zero := [.int .u8 (0), .int .u8 (0), .int .u8 (0), .int .u8 (0), .int .u8 (0), .int .u8 (0), .int .u8 (0), .int .u8 (0), .int .u8 (0), .int .u8 (0), .int .u8 (0), .int .u8 (0), .int .u8 (0), .int .u8 (0), .int .u8 (0), .int .u8 (0), .int .u8 (0), .int .u8 (0), .int .u8 (0), .int .u8 (0), .int .u8 (0)], plain := false, conc := true }
theorem tg193 : TGood Tryz.prog 193 ti193 := TGood.of_facts _ Tryz.underlying193 rfl Tryz.t193 (by kernel_rfl) rfl rfl _ rfl (by kernel_rfl) (by kernel_rfl) (by kernel_rfl) rfl (by kernel_rfl)
def ti204 : TI := { u := .func, size := 1, bytes := 8, zero := [.nilFunc], plain := false, conc := true }
theorem tg204 : TGood Tryz.prog 204 ti204 := TGood.of_facts _ Tryz.underlying204 ⟨_, _, _, rfl⟩ Tryz.t204 (by kernel_rfl) rfl rfl _ rfl (by kernel_rfl) (by kernel_rfl) (by kernel_rfl) rfl (by kernel_rfl)
def ti208 : TI := { u := (.struct [(0, 88)]), size := 3, bytes := 40, zero := [.string ByteArray.empty, .string ByteArray.empty, .bool false], plain := true, conc := true }
theorem tg208 : TGood Tryz.prog 208 ti208 := TGood.of_facts _ Tryz.underlying208 ⟨_, rfl, rfl, by simp⟩ Tryz.t208 (by kernel_rfl) rfl rfl _ rfl (by kernel_rfl) (by kernel_rfl) (by kernel_rfl) rfl (by kernel_rfl)
def ti211 : TI := { u := .func, size := 1, bytes := 8, zero := [.nilFunc], plain := false, conc := true }
theorem tg211 : TGood Tryz.prog 211 ti211 := TGood.of_facts _ Tryz.underlying211 ⟨_, _, _, rfl⟩ Tryz.t211 (by kernel_rfl) rfl rfl _ rfl (by kernel_rfl) (by kernel_rfl) (by kernel_rfl) rfl (by kernel_rfl)
def ti231 : TI := { u := (.array 2 188), size := 2, bytes := 8, zero := [.int .u32 (0), .int .u32 (0)], plain := false, conc := true }
theorem tg231 : TGood Tryz.prog 231 ti231 := TGood.of_facts _ Tryz.underlying231 rfl Tryz.t231 (by kernel_rfl) rfl rfl _ rfl (by kernel_rfl) (by kernel_rfl) (by kernel_rfl) rfl (by kernel_rfl)
def ti237 : TI := { u := .func, size := 1, bytes := 8, zero := [.nilFunc], plain := false, conc := true }
theorem tg237 : TGood Tryz.prog 237 ti237 := TGood.of_facts _ Tryz.underlying237 ⟨_, _, _, rfl⟩ Tryz.t237 (by kernel_rfl) rfl rfl _ rfl (by kernel_rfl) (by kernel_rfl) (by kernel_rfl) rfl (by kernel_rfl)
def tys : Tys := [none, none, none, some ti3, some ti4, some ti5, none, none, none, some ti9, none, none, none, none, none, none, none, none, none, none, some ti20, none, some ti22, some ti23, none, some ti25, none, some ti27, none, some ti29, none, some ti31, none, none, some ti34, none, some ti36, none, some ti38, some ti39, none, none, none, none, none, none, none, none, none, none, none, none, none, none, none, none, none, none, none, none, none, none, none, none, some ti64, none, none, none, some ti68, none, some ti70, none, some ti72, none, some ti74, none, none, none, some ti78, none, none, none, none, none, none, none, none, none, some ti88, none, some ti90, none, none, none, none, some ti95, none, none, none, none, none, none, none, none, none, none, none, some ti107, none, none, none, none, none, none, none, none, none, none, none, none, none, none, none, none, none, none, none, none, none, some ti129, none, none, none, none, none, none, none, none, none, none, none, some ti141, some ti142, none, none, none, none, none, none, none, none, none, none, none, none, none, none, none, none, none, none, none, none, some ti163, some ti164, some ti165, none, some ti167, some ti168, some ti169, none, some ti171, none, none, none, none, none, none, some ti178, none, some ti180, none, some ti182, none, none, none, none, none, some ti188, none, none, none, none, some ti193, none, none, none, none, none, none, none, none, none, none, some ti204, none, none, none, some ti208, none, none, some ti211, none, none, none, none, none, none, none, none, none, none, none, none, none, none, none, none, none, none, none, some ti231, none, none, none, none, none, some ti237, none, none, none, none, none, none, none, none, none, none, none, none, none, none, none, none, none, none, none, none, none, none, none, none, none, none, none, none, none, none, none, none, none, none, none, none, none, none, none, none, none, none, none, none, none, none, none, none, none, none]
theorem tyOk : TyOk Tryz.prog tys := tyOk_of ⟨tg3, tg4, tg5, tg9, tg20, tg22, tg23, tg25, tg27, tg29, tg31, tg34, tg36, tg38, tg39, tg64, tg68, tg70, tg72, tg74, tg78, tg88, tg90, tg95, tg107, tg129, tg141, tg142, tg163, tg164, tg165, tg167, tg168, tg169, tg171, tg178, tg180, tg182, tg188, tg193, tg204, tg208, tg211, tg231, tg237, trivial⟩
theorem mixed : Tryz.prog.follows .mixedOrders = true := by kernel_rfl
theorem rG (G : Gm) {c : Code} {S : St} {Q : Exit → St → Prop} (h : Go.Ab.run Tryz.prog G c S Q) (e : G.tys = tys := by rfl) : Tri Tryz.prog c S Q := Tri.run (by rw [e]; exact tyOk) mixed h
theorem sG (G : Gm) {x y : Code} {S : St} {Q : Exit → St → Prop} (h : Go.Ab.run Tryz.prog G x S fun ex S' => match ex with | .normal => Tri Tryz.prog y S' Q | ex => Q ex S') (e : G.tys = tys := by rfl) : Tri Tryz.prog (.seq x y) S Q := Tri.seqK (rG G h e)
end Go.Ab
