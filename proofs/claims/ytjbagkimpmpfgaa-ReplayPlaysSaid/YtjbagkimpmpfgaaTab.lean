/- The types that the program uses: their kinds, sizes and zeros, by number. Printed by a program. Conditions: none. -/
import Derived.Test.YtjbagkimpmpfgaaProg
import Derived.Test.YtjbagkimpmpfgaaMxM
namespace Go.Proofs.Ytjbagkimpmpfgaa
open Go Go.Mx

theorem info_of {P : Program} {t : Nat} {i : TypeInfo} (h : ∀ w, (typeInfo t).run P w = .ok i w) : P.info? t = some i := by
  have := h default
  unfold typeInfo at this
  cases hi : P.info? t with
  | none => simp [hi] at this
  | some j => simp [hi] at this; simpa using this
def ti2 : TI := ⟨.int .i64, 1, 8, [.c (.int .i64 0)]⟩
theorem ok2 : ti2.Ok Try.prog 2 := ⟨fun fs h => by simp [ti2] at h, ⟨_, Try.underlying2, rfl⟩, ⟨Try.t2, _, info_of Try.typeInfo2, rfl, rfl, rfl, fun _ => rfl, fun _ => by simp [ti2, okS, Seg.ok, C.ok], rfl⟩⟩
def ti3 : TI := ⟨.int .i64, 1, 8, [.c (.int .i64 0)]⟩
theorem ok3 : ti3.Ok Try.prog 3 := ⟨fun fs h => by simp [ti3] at h, ⟨_, Try.underlying3, rfl⟩, ⟨Try.t3, _, info_of Try.typeInfo3, rfl, rfl, rfl, fun _ => rfl, fun _ => by simp [ti3, okS, Seg.ok, C.ok], rfl⟩⟩
def ti4 : TI := ⟨.bool, 1, 1, [.c (.bool true false)]⟩
theorem ok4 : ti4.Ok Try.prog 4 := ⟨fun fs h => by simp [ti4] at h, ⟨_, Try.underlying4, rfl⟩, ⟨Try.t4, _, info_of Try.typeInfo4, rfl, rfl, rfl, fun _ => rfl, fun _ => by simp [ti4, okS, Seg.ok, C.ok], rfl⟩⟩
def ti5 : TI := ⟨.int .u8, 1, 1, [.c (.int .u8 0)]⟩
theorem ok5 : ti5.Ok Try.prog 5 := ⟨fun fs h => by simp [ti5] at h, ⟨_, Try.underlying5, rfl⟩, ⟨Try.t5, _, info_of Try.typeInfo5, rfl, rfl, rfl, fun _ => rfl, fun _ => by simp [ti5, okS, Seg.ok, C.ok], rfl⟩⟩
def ti9 : TI := ⟨.str, 1, 16, [.c (.str ⟨#[]⟩)]⟩
theorem ok9 : ti9.Ok Try.prog 9 := ⟨fun fs h => by simp [ti9] at h, ⟨_, Try.underlying9, rfl⟩, ⟨Try.t9, _, info_of Try.typeInfo9, rfl, rfl, rfl, fun _ => rfl, fun _ => by simp [ti9, okS, Seg.ok, C.ok], rfl⟩⟩
def ti12 : TI := ⟨.int .u64, 1, 8, [.c (.int .u64 0)]⟩
theorem ok12 : ti12.Ok Try.prog 12 := ⟨fun fs h => by simp [ti12] at h, ⟨_, Try.underlying12, rfl⟩, ⟨Try.t12, _, info_of Try.typeInfo12, rfl, rfl, rfl, fun _ => rfl, fun _ => by simp [ti12, okS, Seg.ok, C.ok], rfl⟩⟩
def ti21 : TI := ⟨.int .i32, 1, 4, [.c (.int .i32 0)]⟩
theorem ok21 : ti21.Ok Try.prog 21 := ⟨fun fs h => by simp [ti21] at h, ⟨_, Try.underlying21, rfl⟩, ⟨Try.t21, _, info_of Try.typeInfo21, rfl, rfl, rfl, fun _ => rfl, fun _ => by simp [ti21, okS, Seg.ok, C.ok], rfl⟩⟩
def ti22 : TI := ⟨.int .u32, 1, 4, [.c (.int .u32 0)]⟩
theorem ok22 : ti22.Ok Try.prog 22 := ⟨fun fs h => by simp [ti22] at h, ⟨_, Try.underlying22, rfl⟩, ⟨Try.t22, _, info_of Try.typeInfo22, rfl, rfl, rfl, fun _ => rfl, fun _ => by simp [ti22, okS, Seg.ok, C.ok], rfl⟩⟩
def ti23 : TI := ⟨.slice 3, 1, 24, [.c .nils]⟩
theorem ok23 : ti23.Ok Try.prog 23 := ⟨fun fs h => by simp [ti23] at h, ⟨_, Try.underlying23, rfl⟩, ⟨Try.t23, _, info_of Try.typeInfo23, rfl, rfl, rfl, fun _ => rfl, fun _ => by simp [ti23, okS, Seg.ok, C.ok], rfl⟩⟩
def ti29 : TI := ⟨.int .u64, 1, 8, [.c (.int .u64 0)]⟩
theorem ok29 : ti29.Ok Try.prog 29 := ⟨fun fs h => by simp [ti29] at h, ⟨_, Try.underlying29, rfl⟩, ⟨Try.t29, _, info_of Try.typeInfo29, rfl, rfl, rfl, fun _ => rfl, fun _ => by simp [ti29, okS, Seg.ok, C.ok], rfl⟩⟩
def ti30 : TI := ⟨.arr 32 5, 32, 32, [.ints .u8 (List.replicate 32 0) 32]⟩
theorem ok30 : ti30.Ok Try.prog 30 := ⟨fun fs h => by simp [ti30] at h, ⟨_, Try.underlying30, rfl⟩, ⟨Try.t30, _, info_of Try.typeInfo30, rfl, rfl, rfl, fun _ => rfl, fun _ => by simp [ti30, okS, Seg.ok], rfl⟩⟩
def ti31 : TI := ⟨.arr 12 5, 12, 12, [.ints .u8 (List.replicate 12 0) 12]⟩
theorem ok31 : ti31.Ok Try.prog 31 := ⟨fun fs h => by simp [ti31] at h, ⟨_, Try.underlying31, rfl⟩, ⟨Try.t31, _, info_of Try.typeInfo31, rfl, rfl, rfl, fun _ => rfl, fun _ => by simp [ti31, okS, Seg.ok], rfl⟩⟩
def ti32 : TI := ⟨.arr 16 5, 16, 16, [.ints .u8 (List.replicate 16 0) 16]⟩
theorem ok32 : ti32.Ok Try.prog 32 := ⟨fun fs h => by simp [ti32] at h, ⟨_, Try.underlying32, rfl⟩, ⟨Try.t32, _, info_of Try.typeInfo32, rfl, rfl, rfl, fun _ => rfl, fun _ => by simp [ti32, okS, Seg.ok], rfl⟩⟩
def ti33 : TI := ⟨.slice 5, 1, 24, [.c .nils]⟩
theorem ok33 : ti33.Ok Try.prog 33 := ⟨fun fs h => by simp [ti33] at h, ⟨_, Try.underlying33, rfl⟩, ⟨Try.t33, _, info_of Try.typeInfo33, rfl, rfl, rfl, fun _ => rfl, fun _ => by simp [ti33, okS, Seg.ok, C.ok], rfl⟩⟩
def ti34 : TI := ⟨.arr 64 5, 64, 64, [.ints .u8 (List.replicate 64 0) 64]⟩
theorem ok34 : ti34.Ok Try.prog 34 := ⟨fun fs h => by simp [ti34] at h, ⟨_, Try.underlying34, rfl⟩, ⟨Try.t34, _, info_of Try.typeInfo34, rfl, rfl, rfl, fun _ => rfl, fun _ => by simp [ti34, okS, Seg.ok], rfl⟩⟩
def ti42 : TI := ⟨.slice 22, 1, 24, [.c .nils]⟩
theorem ok42 : ti42.Ok Try.prog 42 := ⟨fun fs h => by simp [ti42] at h, ⟨_, Try.underlying42, rfl⟩, ⟨Try.t42, _, info_of Try.typeInfo42, rfl, rfl, rfl, fun _ => rfl, fun _ => by simp [ti42, okS, Seg.ok, C.ok], rfl⟩⟩
def ti43 : TI := ⟨.ptr 157, 1, 8, [.c .nilp]⟩
theorem ok43 : ti43.Ok Try.prog 43 := ⟨fun fs h => by simp [ti43] at h, ⟨_, Try.underlying43, rfl⟩, ⟨Try.t43, _, info_of Try.typeInfo43, rfl, rfl, rfl, fun _ => rfl, fun _ => by simp [ti43, okS, Seg.ok, C.ok], rfl⟩⟩
def ti45 : TI := ⟨.ptr 50, 1, 8, [.c .nilp]⟩
theorem ok45 : ti45.Ok Try.prog 45 := ⟨fun fs h => by simp [ti45] at h, ⟨_, Try.underlying45, rfl⟩, ⟨Try.t45, _, info_of Try.typeInfo45, rfl, rfl, rfl, fun _ => rfl, fun _ => by simp [ti45, okS, Seg.ok, C.ok], rfl⟩⟩
def ti47 : TI := ⟨.int .u64, 1, 8, [.c (.int .u64 0)]⟩
theorem ok47 : ti47.Ok Try.prog 47 := ⟨fun fs h => by simp [ti47] at h, ⟨_, Try.underlying47, rfl⟩, ⟨Try.t47, _, info_of Try.typeInfo47, rfl, rfl, rfl, fun _ => rfl, fun _ => by simp [ti47, okS, Seg.ok, C.ok], rfl⟩⟩
def ti48 : TI := ⟨.slice 47, 1, 24, [.c .nils]⟩
theorem ok48 : ti48.Ok Try.prog 48 := ⟨fun fs h => by simp [ti48] at h, ⟨_, Try.underlying48, rfl⟩, ⟨Try.t48, _, info_of Try.typeInfo48, rfl, rfl, rfl, fun _ => rfl, fun _ => by simp [ti48, okS, Seg.ok, C.ok], rfl⟩⟩
def ti49 : TI := ⟨.struct [(3, 0), (47, 1), (48, 2)], 3, 40, [.c (.int .i64 0), .c (.int .u64 0), .c .nils]⟩
theorem ok49 : ti49.Ok Try.prog 49 := ⟨fun fs h => ⟨by decide +kernel, fun fields hf => by rw [Try.underlying49] at hf; simp at hf; subst hf; simp⟩, ⟨_, Try.underlying49, _, rfl, rfl⟩, ⟨Try.t49, _, info_of Try.typeInfo49, rfl, rfl, rfl, fun _ => rfl, fun _ => by simp [ti49, okS, Seg.ok, C.ok], rfl⟩⟩
def ti50 : TI := ⟨.struct [(3, 0), (47, 1), (48, 2)], 3, 40, [.c (.int .i64 0), .c (.int .u64 0), .c .nils]⟩
theorem ok50 : ti50.Ok Try.prog 50 := ⟨fun fs h => ⟨by decide +kernel, fun fields hf => by rw [Try.underlying50] at hf; simp at hf; subst hf; simp⟩, ⟨_, Try.underlying50, _, rfl, rfl⟩, ⟨Try.t50, _, info_of Try.typeInfo50, rfl, rfl, rfl, fun _ => rfl, fun _ => by simp [ti50, okS, Seg.ok, C.ok], rfl⟩⟩
def ti58 : TI := ⟨.ptr 68, 1, 8, [.c .nilp]⟩
theorem ok58 : ti58.Ok Try.prog 58 := ⟨fun fs h => by simp [ti58] at h, ⟨_, Try.underlying58, rfl⟩, ⟨Try.t58, _, info_of Try.typeInfo58, rfl, rfl, rfl, fun _ => rfl, fun _ => by simp [ti58, okS, Seg.ok, C.ok], rfl⟩⟩
def ti61 : TI := ⟨.slice 63, 1, 24, [.c .nils]⟩
theorem ok61 : ti61.Ok Try.prog 61 := ⟨fun fs h => by simp [ti61] at h, ⟨_, Try.underlying61, rfl⟩, ⟨Try.t61, _, info_of Try.typeInfo61, rfl, rfl, rfl, fun _ => rfl, fun _ => by simp [ti61, okS, Seg.ok, C.ok], rfl⟩⟩
def ti62 : TI := ⟨.struct [(3, 0), (47, 1)], 2, 16, [.c (.int .i64 0), .c (.int .u64 0)]⟩
theorem ok62 : ti62.Ok Try.prog 62 := ⟨fun fs h => ⟨by decide +kernel, fun fields hf => by rw [Try.underlying62] at hf; simp at hf; subst hf; simp⟩, ⟨_, Try.underlying62, _, rfl, rfl⟩, ⟨Try.t62, _, info_of Try.typeInfo62, rfl, rfl, rfl, fun _ => rfl, fun _ => by simp [ti62, okS, Seg.ok, C.ok], rfl⟩⟩
def ti63 : TI := ⟨.struct [(3, 0), (47, 1)], 2, 16, [.c (.int .i64 0), .c (.int .u64 0)]⟩
theorem ok63 : ti63.Ok Try.prog 63 := ⟨fun fs h => ⟨by decide +kernel, fun fields hf => by rw [Try.underlying63] at hf; simp at hf; subst hf; simp⟩, ⟨_, Try.underlying63, _, rfl, rfl⟩, ⟨Try.t63, _, info_of Try.typeInfo63, rfl, rfl, rfl, fun _ => rfl, fun _ => by simp [ti63, okS, Seg.ok, C.ok], rfl⟩⟩
def ti67 : TI := ⟨.struct [(3, 0), (47, 1), (48, 2)], 3, 40, [.c (.int .i64 0), .c (.int .u64 0), .c .nils]⟩
theorem ok67 : ti67.Ok Try.prog 67 := ⟨fun fs h => ⟨by decide +kernel, fun fields hf => by rw [Try.underlying67] at hf; simp at hf; subst hf; simp⟩, ⟨_, Try.underlying67, _, rfl, rfl⟩, ⟨Try.t67, _, info_of Try.typeInfo67, rfl, rfl, rfl, fun _ => rfl, fun _ => by simp [ti67, okS, Seg.ok, C.ok], rfl⟩⟩
def ti68 : TI := ⟨.struct [(3, 0), (47, 1), (48, 2)], 3, 40, [.c (.int .i64 0), .c (.int .u64 0), .c .nils]⟩
theorem ok68 : ti68.Ok Try.prog 68 := ⟨fun fs h => ⟨by decide +kernel, fun fields hf => by rw [Try.underlying68] at hf; simp at hf; subst hf; simp⟩, ⟨_, Try.underlying68, _, rfl, rfl⟩, ⟨Try.t68, _, info_of Try.typeInfo68, rfl, rfl, rfl, fun _ => rfl, fun _ => by simp [ti68, okS, Seg.ok, C.ok], rfl⟩⟩
def ti73 : TI := ⟨.slice 9, 1, 24, [.c .nils]⟩
theorem ok73 : ti73.Ok Try.prog 73 := ⟨fun fs h => by simp [ti73] at h, ⟨_, Try.underlying73, rfl⟩, ⟨Try.t73, _, info_of Try.typeInfo73, rfl, rfl, rfl, fun _ => rfl, fun _ => by simp [ti73, okS, Seg.ok, C.ok], rfl⟩⟩
def ti76 : TI := ⟨.ptr 85, 1, 8, [.c .nilp]⟩
theorem ok76 : ti76.Ok Try.prog 76 := ⟨fun fs h => by simp [ti76] at h, ⟨_, Try.underlying76, rfl⟩, ⟨Try.t76, _, info_of Try.typeInfo76, rfl, rfl, rfl, fun _ => rfl, fun _ => by simp [ti76, okS, Seg.ok, C.ok], rfl⟩⟩
def ti82 : TI := ⟨.arr 5 47, 5, 40, [.ints .u64 (List.replicate 5 0) 5]⟩
theorem ok82 : ti82.Ok Try.prog 82 := ⟨fun fs h => by simp [ti82] at h, ⟨_, Try.underlying82, rfl⟩, ⟨Try.t82, _, info_of Try.typeInfo82, rfl, rfl, rfl, fun _ => rfl, fun _ => by simp [ti82, okS, Seg.ok], rfl⟩⟩
def ti83 : TI := ⟨.arr 5 47, 5, 40, [.ints .u64 (List.replicate 5 0) 5]⟩
theorem ok83 : ti83.Ok Try.prog 83 := ⟨fun fs h => by simp [ti83] at h, ⟨_, Try.underlying83, rfl⟩, ⟨Try.t83, _, info_of Try.typeInfo83, rfl, rfl, rfl, fun _ => rfl, fun _ => by simp [ti83, okS, Seg.ok], rfl⟩⟩
def ti84 : TI := ⟨.struct [(83, 0), (83, 5), (32, 10), (32, 26), (3, 42)], 43, 120, [.ints .u64 (List.replicate 5 0) 5, .ints .u64 (List.replicate 5 0) 5, .ints .u8 (List.replicate 16 0) 16, .ints .u8 (List.replicate 16 0) 16, .c (.int .i64 0)]⟩
theorem ok84 : ti84.Ok Try.prog 84 := ⟨fun fs h => ⟨by decide +kernel, fun fields hf => by rw [Try.underlying84] at hf; simp at hf; subst hf; simp⟩, ⟨_, Try.underlying84, _, rfl, rfl⟩, ⟨Try.t84, _, info_of Try.typeInfo84, rfl, rfl, rfl, fun _ => rfl, fun _ => by simp [ti84, okS, Seg.ok, C.ok], rfl⟩⟩
def ti85 : TI := ⟨.struct [(83, 0), (83, 5), (32, 10), (32, 26), (3, 42)], 43, 120, [.ints .u64 (List.replicate 5 0) 5, .ints .u64 (List.replicate 5 0) 5, .ints .u8 (List.replicate 16 0) 16, .ints .u8 (List.replicate 16 0) 16, .c (.int .i64 0)]⟩
theorem ok85 : ti85.Ok Try.prog 85 := ⟨fun fs h => ⟨by decide +kernel, fun fields hf => by rw [Try.underlying85] at hf; simp at hf; subst hf; simp⟩, ⟨_, Try.underlying85, _, rfl, rfl⟩, ⟨Try.t85, _, info_of Try.typeInfo85, rfl, rfl, rfl, fun _ => rfl, fun _ => by simp [ti85, okS, Seg.ok, C.ok], rfl⟩⟩
def ti91 : TI := ⟨.int .i64, 1, 8, [.c (.int .i64 0)]⟩
theorem ok91 : ti91.Ok Try.prog 91 := ⟨fun fs h => by simp [ti91] at h, ⟨_, Try.underlying91, rfl⟩, ⟨Try.t91, _, info_of Try.typeInfo91, rfl, rfl, rfl, fun _ => rfl, fun _ => by simp [ti91, okS, Seg.ok, C.ok], rfl⟩⟩
def ti95 : TI := ⟨.arr 24 5, 24, 24, [.ints .u8 (List.replicate 24 0) 24]⟩
theorem ok95 : ti95.Ok Try.prog 95 := ⟨fun fs h => by simp [ti95] at h, ⟨_, Try.underlying95, rfl⟩, ⟨Try.t95, _, info_of Try.typeInfo95, rfl, rfl, rfl, fun _ => rfl, fun _ => by simp [ti95, okS, Seg.ok], rfl⟩⟩
def ti99 : TI := ⟨.ptr 142, 1, 8, [.c .nilp]⟩
theorem ok99 : ti99.Ok Try.prog 99 := ⟨fun fs h => by simp [ti99] at h, ⟨_, Try.underlying99, rfl⟩, ⟨Try.t99, _, info_of Try.typeInfo99, rfl, rfl, rfl, fun _ => rfl, fun _ => by simp [ti99, okS, Seg.ok, C.ok], rfl⟩⟩
def ti108 : TI := ⟨.slice 128, 1, 24, [.c .nils]⟩
theorem ok108 : ti108.Ok Try.prog 108 := ⟨fun fs h => by simp [ti108] at h, ⟨_, Try.underlying108, rfl⟩, ⟨Try.t108, _, info_of Try.typeInfo108, rfl, rfl, rfl, fun _ => rfl, fun _ => by simp [ti108, okS, Seg.ok, C.ok], rfl⟩⟩
def ti111 : TI := ⟨.slice 116, 1, 24, [.c .nils]⟩
theorem ok111 : ti111.Ok Try.prog 111 := ⟨fun fs h => by simp [ti111] at h, ⟨_, Try.underlying111, rfl⟩, ⟨Try.t111, _, info_of Try.typeInfo111, rfl, rfl, rfl, fun _ => rfl, fun _ => by simp [ti111, okS, Seg.ok, C.ok], rfl⟩⟩
def ti112 : TI := ⟨.arr 2 99, 2, 16, [.c .nilp, .c .nilp]⟩
theorem ok112 : ti112.Ok Try.prog 112 := ⟨fun fs h => by simp [ti112] at h, ⟨_, Try.underlying112, rfl⟩, ⟨Try.t112, _, info_of Try.typeInfo112, rfl, rfl, rfl, fun _ => rfl, fun _ => by simp [ti112, okS, Seg.ok, C.ok], rfl⟩⟩
def ti113 : TI := ⟨.slice 121, 1, 24, [.c .nils]⟩
theorem ok113 : ti113.Ok Try.prog 113 := ⟨fun fs h => by simp [ti113] at h, ⟨_, Try.underlying113, rfl⟩, ⟨Try.t113, _, info_of Try.typeInfo113, rfl, rfl, rfl, fun _ => rfl, fun _ => by simp [ti113, okS, Seg.ok, C.ok], rfl⟩⟩
def ti114 : TI := ⟨.arr 2 113, 2, 48, [.c .nils, .c .nils]⟩
theorem ok114 : ti114.Ok Try.prog 114 := ⟨fun fs h => by simp [ti114] at h, ⟨_, Try.underlying114, rfl⟩, ⟨Try.t114, _, info_of Try.typeInfo114, rfl, rfl, rfl, fun _ => rfl, fun _ => by simp [ti114, okS, Seg.ok, C.ok], rfl⟩⟩
def ti115 : TI := ⟨.struct [(3, 0), (3, 1), (3, 2), (4, 3)], 4, 32, [.c (.int .i64 0), .c (.int .i64 0), .c (.int .i64 0), .c (.bool true false)]⟩
theorem ok115 : ti115.Ok Try.prog 115 := ⟨fun fs h => ⟨by decide +kernel, fun fields hf => by rw [Try.underlying115] at hf; simp at hf; subst hf; simp⟩, ⟨_, Try.underlying115, _, rfl, rfl⟩, ⟨Try.t115, _, info_of Try.typeInfo115, rfl, rfl, rfl, fun _ => rfl, fun _ => by simp [ti115, okS, Seg.ok, C.ok], rfl⟩⟩
def ti116 : TI := ⟨.struct [(3, 0), (3, 1), (3, 2), (4, 3)], 4, 32, [.c (.int .i64 0), .c (.int .i64 0), .c (.int .i64 0), .c (.bool true false)]⟩
theorem ok116 : ti116.Ok Try.prog 116 := ⟨fun fs h => ⟨by decide +kernel, fun fields hf => by rw [Try.underlying116] at hf; simp at hf; subst hf; simp⟩, ⟨_, Try.underlying116, _, rfl, rfl⟩, ⟨Try.t116, _, info_of Try.typeInfo116, rfl, rfl, rfl, fun _ => rfl, fun _ => by simp [ti116, okS, Seg.ok, C.ok], rfl⟩⟩
def ti120 : TI := ⟨.struct [(9, 0), (9, 1), (22, 2), (47, 3), (4, 4)], 5, 56, [.c (.str ⟨#[]⟩), .c (.str ⟨#[]⟩), .c (.int .u32 0), .c (.int .u64 0), .c (.bool true false)]⟩
theorem ok120 : ti120.Ok Try.prog 120 := ⟨fun fs h => ⟨by decide +kernel, fun fields hf => by rw [Try.underlying120] at hf; simp at hf; subst hf; simp⟩, ⟨_, Try.underlying120, _, rfl, rfl⟩, ⟨Try.t120, _, info_of Try.typeInfo120, rfl, rfl, rfl, fun _ => rfl, fun _ => by simp [ti120, okS, Seg.ok, C.ok], rfl⟩⟩
def ti121 : TI := ⟨.struct [(9, 0), (9, 1), (22, 2), (47, 3), (4, 4)], 5, 56, [.c (.str ⟨#[]⟩), .c (.str ⟨#[]⟩), .c (.int .u32 0), .c (.int .u64 0), .c (.bool true false)]⟩
theorem ok121 : ti121.Ok Try.prog 121 := ⟨fun fs h => ⟨by decide +kernel, fun fields hf => by rw [Try.underlying121] at hf; simp at hf; subst hf; simp⟩, ⟨_, Try.underlying121, _, rfl, rfl⟩, ⟨Try.t121, _, info_of Try.typeInfo121, rfl, rfl, rfl, fun _ => rfl, fun _ => by simp [ti121, okS, Seg.ok, C.ok], rfl⟩⟩
def ti124 : TI := ⟨.slice 126, 1, 24, [.c .nils]⟩
theorem ok124 : ti124.Ok Try.prog 124 := ⟨fun fs h => by simp [ti124] at h, ⟨_, Try.underlying124, rfl⟩, ⟨Try.t124, _, info_of Try.typeInfo124, rfl, rfl, rfl, fun _ => rfl, fun _ => by simp [ti124, okS, Seg.ok, C.ok], rfl⟩⟩
def ti125 : TI := ⟨.struct [(3, 0), (3, 1), (3, 2), (47, 3), (4, 4), (4, 5), (9, 6)], 7, 56, [.c (.int .i64 0), .c (.int .i64 0), .c (.int .i64 0), .c (.int .u64 0), .c (.bool true false), .c (.bool true false), .c (.str ⟨#[]⟩)]⟩
theorem ok125 : ti125.Ok Try.prog 125 := ⟨fun fs h => ⟨by decide +kernel, fun fields hf => by rw [Try.underlying125] at hf; simp at hf; subst hf; simp⟩, ⟨_, Try.underlying125, _, rfl, rfl⟩, ⟨Try.t125, _, info_of Try.typeInfo125, rfl, rfl, rfl, fun _ => rfl, fun _ => by simp [ti125, okS, Seg.ok, C.ok], rfl⟩⟩
def ti126 : TI := ⟨.struct [(3, 0), (3, 1), (3, 2), (47, 3), (4, 4), (4, 5), (9, 6)], 7, 56, [.c (.int .i64 0), .c (.int .i64 0), .c (.int .i64 0), .c (.int .u64 0), .c (.bool true false), .c (.bool true false), .c (.str ⟨#[]⟩)]⟩
theorem ok126 : ti126.Ok Try.prog 126 := ⟨fun fs h => ⟨by decide +kernel, fun fields hf => by rw [Try.underlying126] at hf; simp at hf; subst hf; simp⟩, ⟨_, Try.underlying126, _, rfl, rfl⟩, ⟨Try.t126, _, info_of Try.typeInfo126, rfl, rfl, rfl, fun _ => rfl, fun _ => by simp [ti126, okS, Seg.ok, C.ok], rfl⟩⟩
def ti127 : TI := ⟨.struct [(3, 0), (3, 1), (22, 2), (22, 3), (4, 4), (3, 5), (47, 6), (47, 7)], 8, 56, [.c (.int .i64 0), .c (.int .i64 0), .c (.int .u32 0), .c (.int .u32 0), .c (.bool true false), .c (.int .i64 0), .c (.int .u64 0), .c (.int .u64 0)]⟩
theorem ok127 : ti127.Ok Try.prog 127 := ⟨fun fs h => ⟨by decide +kernel, fun fields hf => by rw [Try.underlying127] at hf; simp at hf; subst hf; simp⟩, ⟨_, Try.underlying127, _, rfl, rfl⟩, ⟨Try.t127, _, info_of Try.typeInfo127, rfl, rfl, rfl, fun _ => rfl, fun _ => by simp [ti127, okS, Seg.ok, C.ok], rfl⟩⟩
def ti128 : TI := ⟨.struct [(3, 0), (3, 1), (22, 2), (22, 3), (4, 4), (3, 5), (47, 6), (47, 7)], 8, 56, [.c (.int .i64 0), .c (.int .i64 0), .c (.int .u32 0), .c (.int .u32 0), .c (.bool true false), .c (.int .i64 0), .c (.int .u64 0), .c (.int .u64 0)]⟩
theorem ok128 : ti128.Ok Try.prog 128 := ⟨fun fs h => ⟨by decide +kernel, fun fields hf => by rw [Try.underlying128] at hf; simp at hf; subst hf; simp⟩, ⟨_, Try.underlying128, _, rfl, rfl⟩, ⟨Try.t128, _, info_of Try.typeInfo128, rfl, rfl, rfl, fun _ => rfl, fun _ => by simp [ti128, okS, Seg.ok, C.ok], rfl⟩⟩
def ti131 : TI := ⟨.ptr 136, 1, 8, [.c .nilp]⟩
theorem ok131 : ti131.Ok Try.prog 131 := ⟨fun fs h => by simp [ti131] at h, ⟨_, Try.underlying131, rfl⟩, ⟨Try.t131, _, info_of Try.typeInfo131, rfl, rfl, rfl, fun _ => rfl, fun _ => by simp [ti131, okS, Seg.ok, C.ok], rfl⟩⟩
def ti139 : TI := ⟨.ptr 174, 1, 8, [.c .nilp]⟩
theorem ok139 : ti139.Ok Try.prog 139 := ⟨fun fs h => by simp [ti139] at h, ⟨_, Try.underlying139, rfl⟩, ⟨Try.t139, _, info_of Try.typeInfo139, rfl, rfl, rfl, fun _ => rfl, fun _ => by simp [ti139, okS, Seg.ok, C.ok], rfl⟩⟩
def ti140 : TI := ⟨.arr 3 139, 3, 24, [.c .nilp, .c .nilp, .c .nilp]⟩
theorem ok140 : ti140.Ok Try.prog 140 := ⟨fun fs h => by simp [ti140] at h, ⟨_, Try.underlying140, rfl⟩, ⟨Try.t140, _, info_of Try.typeInfo140, rfl, rfl, rfl, fun _ => rfl, fun _ => by simp [ti140, okS, Seg.ok, C.ok], rfl⟩⟩
def ti141 : TI := ⟨.struct [(3, 0), (3, 1), (140, 2)], 5, 40, [.c (.int .i64 0), .c (.int .i64 0), .c .nilp, .c .nilp, .c .nilp]⟩
theorem ok141 : ti141.Ok Try.prog 141 := ⟨fun fs h => ⟨by decide +kernel, fun fields hf => by rw [Try.underlying141] at hf; simp at hf; subst hf; simp⟩, ⟨_, Try.underlying141, _, rfl, rfl⟩, ⟨Try.t141, _, info_of Try.typeInfo141, rfl, rfl, rfl, fun _ => rfl, fun _ => by simp [ti141, okS, Seg.ok, C.ok], rfl⟩⟩
def ti142 : TI := ⟨.struct [(3, 0), (3, 1), (140, 2)], 5, 40, [.c (.int .i64 0), .c (.int .i64 0), .c .nilp, .c .nilp, .c .nilp]⟩
theorem ok142 : ti142.Ok Try.prog 142 := ⟨fun fs h => ⟨by decide +kernel, fun fields hf => by rw [Try.underlying142] at hf; simp at hf; subst hf; simp⟩, ⟨_, Try.underlying142, _, rfl, rfl⟩, ⟨Try.t142, _, info_of Try.typeInfo142, rfl, rfl, rfl, fun _ => rfl, fun _ => by simp [ti142, okS, Seg.ok, C.ok], rfl⟩⟩
def ti145 : TI := ⟨.arr 16 22, 16, 64, [.ints .u32 (List.replicate 16 0) 16]⟩
theorem ok145 : ti145.Ok Try.prog 145 := ⟨fun fs h => by simp [ti145] at h, ⟨_, Try.underlying145, rfl⟩, ⟨Try.t145, _, info_of Try.typeInfo145, rfl, rfl, rfl, fun _ => rfl, fun _ => by simp [ti145, okS, Seg.ok], rfl⟩⟩
def ti146 : TI := ⟨.arr 16 22, 16, 64, [.ints .u32 (List.replicate 16 0) 16]⟩
theorem ok146 : ti146.Ok Try.prog 146 := ⟨fun fs h => by simp [ti146] at h, ⟨_, Try.underlying146, rfl⟩, ⟨Try.t146, _, info_of Try.typeInfo146, rfl, rfl, rfl, fun _ => rfl, fun _ => by simp [ti146, okS, Seg.ok], rfl⟩⟩
def ti148 : TI := ⟨.ptr 30, 1, 8, [.c .nilp]⟩
theorem ok148 : ti148.Ok Try.prog 148 := ⟨fun fs h => by simp [ti148] at h, ⟨_, Try.underlying148, rfl⟩, ⟨Try.t148, _, info_of Try.typeInfo148, rfl, rfl, rfl, fun _ => rfl, fun _ => by simp [ti148, okS, Seg.ok, C.ok], rfl⟩⟩
def ti150 : TI := ⟨.arr 4 22, 4, 16, [.ints .u32 (List.replicate 4 0) 4]⟩
theorem ok150 : ti150.Ok Try.prog 150 := ⟨fun fs h => by simp [ti150] at h, ⟨_, Try.underlying150, rfl⟩, ⟨Try.t150, _, info_of Try.typeInfo150, rfl, rfl, rfl, fun _ => rfl, fun _ => by simp [ti150, okS, Seg.ok], rfl⟩⟩
def ti156 : TI := ⟨.struct [(3, 0), (22, 1), (48, 2)], 3, 40, [.c (.int .i64 0), .c (.int .u32 0), .c .nils]⟩
theorem ok156 : ti156.Ok Try.prog 156 := ⟨fun fs h => ⟨by decide +kernel, fun fields hf => by rw [Try.underlying156] at hf; simp at hf; subst hf; simp⟩, ⟨_, Try.underlying156, _, rfl, rfl⟩, ⟨Try.t156, _, info_of Try.typeInfo156, rfl, rfl, rfl, fun _ => rfl, fun _ => by simp [ti156, okS, Seg.ok, C.ok], rfl⟩⟩
def ti157 : TI := ⟨.struct [(3, 0), (22, 1), (48, 2)], 3, 40, [.c (.int .i64 0), .c (.int .u32 0), .c .nils]⟩
theorem ok157 : ti157.Ok Try.prog 157 := ⟨fun fs h => ⟨by decide +kernel, fun fields hf => by rw [Try.underlying157] at hf; simp at hf; subst hf; simp⟩, ⟨_, Try.underlying157, _, rfl, rfl⟩, ⟨Try.t157, _, info_of Try.typeInfo157, rfl, rfl, rfl, fun _ => rfl, fun _ => by simp [ti157, okS, Seg.ok, C.ok], rfl⟩⟩
def tabRow (r : Nat) : List (Option TI) :=
  match r with
  | 0 => [none, none, some ti2, some ti3, some ti4, some ti5, none, none, none, some ti9, none, none, some ti12, none, none, none]
  | 1 => [none, none, none, none, none, some ti21, some ti22, some ti23, none, none, none, none, none, some ti29, some ti30, some ti31]
  | 2 => [some ti32, some ti33, some ti34, none, none, none, none, none, none, none, some ti42, some ti43, none, some ti45, none, some ti47]
  | 3 => [some ti48, some ti49, some ti50, none, none, none, none, none, none, none, some ti58, none, none, some ti61, some ti62, some ti63]
  | 4 => [none, none, none, some ti67, some ti68, none, none, none, none, some ti73, none, none, some ti76, none, none, none]
  | 5 => [none, none, some ti82, some ti83, some ti84, some ti85, none, none, none, none, none, some ti91, none, none, none, some ti95]
  | 6 => [none, none, none, some ti99, none, none, none, none, none, none, none, none, some ti108, none, none, some ti111]
  | 7 => [some ti112, some ti113, some ti114, some ti115, some ti116, none, none, none, some ti120, some ti121, none, none, some ti124, some ti125, some ti126, some ti127]
  | 8 => [some ti128, none, none, some ti131, none, none, none, none, none, none, none, some ti139, some ti140, some ti141, some ti142, none]
  | 9 => [none, some ti145, some ti146, none, some ti148, none, some ti150, none, none, none, none, none, some ti156, some ti157, none, none]
  | _ => []
def at? : List (Option TI) → Nat → Option TI
  | [], _ => none
  | x :: _, 0 => x
  | _ :: l, n + 1 => at? l n
def tab : Tab := fun t => at? (tabRow (t / 16)) (t % 16)
theorem at?_none (n : Nat) : at? [] n = none := rfl
def RowOk (b : Nat) : List (Option TI) → Prop
  | [] => True
  | x :: l => (∀ ti, x = some ti → ti.Ok Try.prog b) ∧ RowOk (b + 1) l
theorem row_at {b : Nat} : ∀ {l : List (Option TI)} {k : Nat} {ti : TI}, RowOk b l → at? l k = some ti → ti.Ok Try.prog (b + k)
  | [], _, _, _, h => by simp [at?] at h
  | x :: l, 0, ti, hr, h => hr.1 ti h
  | x :: l, k + 1, ti, hr, h => by
    have := row_at (b := b + 1) (l := l) (k := k) hr.2 h
    rwa [show b + 1 + k = b + (k + 1) by omega] at this
theorem yes {x : TI} {t : Nat} (h : x.Ok Try.prog t) : ∀ y, some x = some y → y.Ok Try.prog t := fun _ e => Option.some.inj e ▸ h
theorem no {t : Nat} : ∀ y, none = some y → TI.Ok Try.prog t y := fun _ e => nomatch e
theorem row0 : RowOk 0 (tabRow 0) := ⟨no, no, yes ok2, yes ok3, yes ok4, yes ok5, no, no, no, yes ok9, no, no, yes ok12, no, no, no, trivial⟩
theorem row1 : RowOk 16 (tabRow 1) := ⟨no, no, no, no, no, yes ok21, yes ok22, yes ok23, no, no, no, no, no, yes ok29, yes ok30, yes ok31, trivial⟩
theorem row2 : RowOk 32 (tabRow 2) := ⟨yes ok32, yes ok33, yes ok34, no, no, no, no, no, no, no, yes ok42, yes ok43, no, yes ok45, no, yes ok47, trivial⟩
theorem row3 : RowOk 48 (tabRow 3) := ⟨yes ok48, yes ok49, yes ok50, no, no, no, no, no, no, no, yes ok58, no, no, yes ok61, yes ok62, yes ok63, trivial⟩
theorem row4 : RowOk 64 (tabRow 4) := ⟨no, no, no, yes ok67, yes ok68, no, no, no, no, yes ok73, no, no, yes ok76, no, no, no, trivial⟩
theorem row5 : RowOk 80 (tabRow 5) := ⟨no, no, yes ok82, yes ok83, yes ok84, yes ok85, no, no, no, no, no, yes ok91, no, no, no, yes ok95, trivial⟩
theorem row6 : RowOk 96 (tabRow 6) := ⟨no, no, no, yes ok99, no, no, no, no, no, no, no, no, yes ok108, no, no, yes ok111, trivial⟩
theorem row7 : RowOk 112 (tabRow 7) := ⟨yes ok112, yes ok113, yes ok114, yes ok115, yes ok116, no, no, no, yes ok120, yes ok121, no, no, yes ok124, yes ok125, yes ok126, yes ok127, trivial⟩
theorem row8 : RowOk 128 (tabRow 8) := ⟨yes ok128, no, no, yes ok131, no, no, no, no, no, no, no, yes ok139, yes ok140, yes ok141, yes ok142, no, trivial⟩
theorem row9 : RowOk 144 (tabRow 9) := ⟨no, yes ok145, yes ok146, no, yes ok148, no, yes ok150, no, no, no, no, no, yes ok156, yes ok157, no, no, trivial⟩
theorem rows_ok : ∀ r, RowOk (16 * r) (tabRow r)
  | 0 => row0
  | 1 => row1
  | 2 => row2
  | 3 => row3
  | 4 => row4
  | 5 => row5
  | 6 => row6
  | 7 => row7
  | 8 => row8
  | 9 => row9
  | _ + 10 => trivial
theorem tab_ok : Tab.Ok Try.prog tab := by
  intro t ti h
  have := row_at (rows_ok (t / 16)) h
  rwa [Nat.div_add_mod] at this
theorem mixed : Try.prog.follows .mixedOrders = true := by decide +kernel
end Go.Proofs.Ytjbagkimpmpfgaa
