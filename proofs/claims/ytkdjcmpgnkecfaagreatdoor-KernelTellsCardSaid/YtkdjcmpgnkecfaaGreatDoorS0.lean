/-
  The tables of the seat's types and functions, as trees; the known functions.
-/
import Derived.Test.YtkdjcmpgnkecfaaGreatDoorL5
import Derived.Test.YtkdjcmpgnkecfaaGreatDoorProg
import Derived.KernelRfl
noncomputable section
namespace Go.Proofs.YtkdjcmpgnkecfaaGreatDoor
open Go.Ev
set_option linter.unusedVariables false
set_option maxRecDepth 100000
def ty2 : TyI := ⟨(.int .i64), 1, 8, [.int .i64 0], true, []⟩
def ty3 : TyI := ⟨(.int .i64), 1, 8, [.int .i64 0], true, []⟩
def ty4 : TyI := ⟨.bool, 1, 1, [.bool false], true, []⟩
def ty5 : TyI := ⟨(.int .u8), 1, 1, [.int .u8 0], true, []⟩
def ty9 : TyI := ⟨.string, 1, 16, [.str 0 0], true, []⟩
def ty22 : TyI := ⟨(.array 4 3), 4, 32, [.int .i64 0, .int .i64 0, .int .i64 0, .int .i64 0], true, []⟩
def ty23 : TyI := ⟨(.slice 132), 1, 24, [.nilSlice], true, []⟩
def ty24 : TyI := ⟨(.slice 149), 1, 24, [.nilSlice], true, []⟩
def ty25 : TyI := ⟨(.slice 9), 1, 24, [.nilSlice], true, []⟩
def ty27 : TyI := ⟨(.array 3 3), 3, 24, [.int .i64 0, .int .i64 0, .int .i64 0], true, []⟩
def ty28 : TyI := ⟨(.pointer 145), 1, 8, [.nilPtr], true, []⟩
def ty29 : TyI := ⟨(.int .i64), 1, 8, [.int .i64 0], true, []⟩
def ty32 : TyI := ⟨(.pointer 244), 1, 8, [.nilPtr], true, []⟩
def ty34 : TyI := ⟨(.slice 69), 1, 24, [.nilSlice], true, []⟩
def ty36 : TyI := ⟨(.slice 71), 1, 24, [.nilSlice], true, []⟩
def ty41 : TyI := ⟨(.func #[] #[4] false), 1, 8, [.nilFunc], true, []⟩
def ty42 : TyI := ⟨(.pointer 156), 1, 8, [.nilPtr], true, []⟩
def ty43 : TyI := ⟨(.pointer 199), 1, 8, [.nilPtr], true, []⟩
def ty47 : TyI := ⟨(.struct #[{ name := "From", type := 3, offset := 0, embedded := false, tag := "", pkgPath := "", byteOffset := 0 }, { name := "To", type := 3, offset := 1, embedded := false, tag := "", pkgPath := "", byteOffset := 8 }, { name := "Perm", type := 3, offset := 2, embedded := false, tag := "", pkgPath := "", byteOffset := 16 }, { name := "Kind", type := 3, offset := 3, embedded := false, tag := "", pkgPath := "", byteOffset := 24 }, { name := "File", type := 3, offset := 4, embedded := false, tag := "", pkgPath := "", byteOffset := 32 }, { name := "Page", type := 3, offset := 5, embedded := false, tag := "", pkgPath := "", byteOffset := 40 }]), 6, 48, [.int .i64 0, .int .i64 0, .int .i64 0, .int .i64 0, .int .i64 0, .int .i64 0], true, [(0, 1), (1, 1), (2, 1), (3, 1), (4, 1), (5, 1)]⟩
def ty48 : TyI := ⟨(.pointer 161), 1, 8, [.nilPtr], true, []⟩
def ty59 : TyI := ⟨(.func #[3, 3, 3] #[4] false), 1, 8, [.nilFunc], true, []⟩
def ty60 : TyI := ⟨(.slice 63), 1, 24, [.nilSlice], true, []⟩
def ty63 : TyI := ⟨(.struct #[{ name := "Pid", type := 3, offset := 0, embedded := false, tag := "", pkgPath := "", byteOffset := 0 }, { name := "Parent", type := 3, offset := 1, embedded := false, tag := "", pkgPath := "", byteOffset := 8 }, { name := "State", type := 3, offset := 2, embedded := false, tag := "", pkgPath := "", byteOffset := 16 }, { name := "Code", type := 3, offset := 3, embedded := false, tag := "", pkgPath := "", byteOffset := 24 }]), 4, 32, [.int .i64 0, .int .i64 0, .int .i64 0, .int .i64 0], true, [(0, 1), (1, 1), (2, 1), (3, 1)]⟩
def ty64 : TyI := ⟨(.slice 3), 1, 24, [.nilSlice], true, []⟩
def ty67 : TyI := ⟨(.int .u64), 1, 8, [.int .u64 0], true, []⟩
def ty69 : TyI := ⟨(.struct #[{ name := "Op", type := 3, offset := 0, embedded := false, tag := "", pkgPath := "", byteOffset := 0 }, { name := "Pid", type := 3, offset := 1, embedded := false, tag := "", pkgPath := "", byteOffset := 8 }, { name := "At", type := 3, offset := 2, embedded := false, tag := "", pkgPath := "", byteOffset := 16 }, { name := "N", type := 3, offset := 3, embedded := false, tag := "", pkgPath := "", byteOffset := 24 }, { name := "Perm", type := 3, offset := 4, embedded := false, tag := "", pkgPath := "", byteOffset := 32 }, { name := "Name", type := 9, offset := 5, embedded := false, tag := "", pkgPath := "", byteOffset := 40 }, { name := "Args", type := 25, offset := 6, embedded := false, tag := "", pkgPath := "", byteOffset := 56 }, { name := "Env", type := 25, offset := 7, embedded := false, tag := "", pkgPath := "", byteOffset := 80 }, { name := "Bits", type := 67, offset := 8, embedded := false, tag := "", pkgPath := "", byteOffset := 104 }]), 9, 112, [.int .i64 0, .int .i64 0, .int .i64 0, .int .i64 0, .int .i64 0, .str 0 0, .nilSlice, .nilSlice, .int .u64 0], true, [(0, 1), (1, 1), (2, 1), (3, 1), (4, 1), (5, 1), (6, 1), (7, 1), (8, 1)]⟩
def ty71 : TyI := ⟨(.struct #[{ name := "Err", type := 29, offset := 0, embedded := false, tag := "", pkgPath := "", byteOffset := 0 }, { name := "N", type := 3, offset := 1, embedded := false, tag := "", pkgPath := "", byteOffset := 8 }, { name := "Bits", type := 67, offset := 2, embedded := false, tag := "", pkgPath := "", byteOffset := 16 }]), 3, 24, [.int .i64 0, .int .i64 0, .int .u64 0], true, [(0, 1), (1, 1), (2, 1)]⟩
def ty75 : TyI := ⟨(.slice 48), 1, 24, [.nilSlice], true, []⟩
def ty83 : TyI := ⟨(.pointer 234), 1, 8, [.nilPtr], true, []⟩
def ty90 : TyI := ⟨(.slice 250), 1, 24, [.nilSlice], true, []⟩
def ty101 : TyI := ⟨(.slice 22), 1, 24, [.nilSlice], true, []⟩
def ty103 : TyI := ⟨(.struct #[{ name := "Exec", type := 4, offset := 0, embedded := false, tag := "", pkgPath := "", byteOffset := 0 }, { name := "Text", type := 3, offset := 1, embedded := false, tag := "", pkgPath := "", byteOffset := 8 }, { name := "Slot", type := 3, offset := 2, embedded := false, tag := "", pkgPath := "", byteOffset := 16 }, { name := "Needs", type := 64, offset := 3, embedded := false, tag := "", pkgPath := "", byteOffset := 24 }, { name := "Defs", type := 64, offset := 4, embedded := false, tag := "", pkgPath := "", byteOffset := 48 }, { name := "Asks", type := 64, offset := 5, embedded := false, tag := "", pkgPath := "", byteOffset := 72 }, { name := "Relocs", type := 101, offset := 6, embedded := false, tag := "", pkgPath := "", byteOffset := 96 }]), 7, 120, [.bool false, .int .i64 0, .int .i64 0, .nilSlice, .nilSlice, .nilSlice, .nilSlice], true, [(0, 1), (1, 1), (2, 1), (3, 1), (4, 1), (5, 1), (6, 1)]⟩
def ty104 : TyI := ⟨(.slice 103), 1, 24, [.nilSlice], true, []⟩
def ty107 : TyI := ⟨(.slice 113), 1, 24, [.nilSlice], true, []⟩
def ty109 : TyI := ⟨(.struct #[{ name := "Args", type := 25, offset := 0, embedded := false, tag := "", pkgPath := "", byteOffset := 0 }, { name := "Env", type := 25, offset := 1, embedded := false, tag := "", pkgPath := "", byteOffset := 24 }, { name := "Aux", type := 107, offset := 2, embedded := false, tag := "", pkgPath := "", byteOffset := 48 }, { name := "Is", type := 4, offset := 3, embedded := false, tag := "", pkgPath := "", byteOffset := 72 }, { name := "At", type := 3, offset := 4, embedded := false, tag := "", pkgPath := "", byteOffset := 80 }]), 5, 88, [.nilSlice, .nilSlice, .nilSlice, .bool false, .int .i64 0], true, [(0, 1), (1, 1), (2, 1), (3, 1), (4, 1)]⟩
def ty113 : TyI := ⟨(.struct #[{ name := "Tag", type := 3, offset := 0, embedded := false, tag := "", pkgPath := "", byteOffset := 0 }, { name := "Value", type := 3, offset := 1, embedded := false, tag := "", pkgPath := "", byteOffset := 8 }]), 2, 16, [.int .i64 0, .int .i64 0], true, [(0, 1), (1, 1)]⟩
def ty115 : TyI := ⟨(.slice 117), 1, 24, [.nilSlice], true, []⟩
def ty117 : TyI := ⟨(.struct #[{ name := "Op", type := 3, offset := 0, embedded := false, tag := "", pkgPath := "", byteOffset := 0 }, { name := "Pid", type := 3, offset := 1, embedded := false, tag := "", pkgPath := "", byteOffset := 8 }, { name := "Place", type := 3, offset := 2, embedded := false, tag := "", pkgPath := "", byteOffset := 16 }, { name := "At", type := 3, offset := 3, embedded := false, tag := "", pkgPath := "", byteOffset := 24 }, { name := "N", type := 3, offset := 4, embedded := false, tag := "", pkgPath := "", byteOffset := 32 }, { name := "Name", type := 3, offset := 5, embedded := false, tag := "", pkgPath := "", byteOffset := 40 }, { name := "Kind", type := 3, offset := 6, embedded := false, tag := "", pkgPath := "", byteOffset := 48 }, { name := "Bits", type := 67, offset := 7, embedded := false, tag := "", pkgPath := "", byteOffset := 56 }, { name := "Raw", type := 4, offset := 8, embedded := false, tag := "", pkgPath := "", byteOffset := 64 }, { name := "Args", type := 25, offset := 9, embedded := false, tag := "", pkgPath := "", byteOffset := 72 }]), 10, 96, [.int .i64 0, .int .i64 0, .int .i64 0, .int .i64 0, .int .i64 0, .int .i64 0, .int .i64 0, .int .u64 0, .bool false, .nilSlice], true, [(0, 1), (1, 1), (2, 1), (3, 1), (4, 1), (5, 1), (6, 1), (7, 1), (8, 1), (9, 1)]⟩
def ty121 : TyI := ⟨(.array 32 67), 32, 256, [.int .u64 0, .int .u64 0, .int .u64 0, .int .u64 0, .int .u64 0, .int .u64 0, .int .u64 0, .int .u64 0, .int .u64 0, .int .u64 0, .int .u64 0, .int .u64 0, .int .u64 0, .int .u64 0, .int .u64 0, .int .u64 0, .int .u64 0, .int .u64 0, .int .u64 0, .int .u64 0, .int .u64 0, .int .u64 0, .int .u64 0, .int .u64 0, .int .u64 0, .int .u64 0, .int .u64 0, .int .u64 0, .int .u64 0, .int .u64 0, .int .u64 0, .int .u64 0], true, []⟩
def ty124 : TyI := ⟨(.array 2 3), 2, 16, [.int .i64 0, .int .i64 0], true, []⟩
def ty126 : TyI := ⟨(.slice 47), 1, 24, [.nilSlice], true, []⟩
def ty128 : TyI := ⟨(.func #[3] #[4] false), 1, 8, [.nilFunc], true, []⟩
def ty130 : TyI := ⟨(.slice 131), 1, 24, [.nilSlice], true, []⟩
def ty131 : TyI := ⟨(.struct #[{ name := "Exec", type := 4, offset := 0, embedded := false, tag := "", pkgPath := "", byteOffset := 0 }, { name := "Text", type := 3, offset := 1, embedded := false, tag := "", pkgPath := "", byteOffset := 8 }, { name := "Slot", type := 3, offset := 2, embedded := false, tag := "", pkgPath := "", byteOffset := 16 }, { name := "Needs", type := 64, offset := 3, embedded := false, tag := "", pkgPath := "", byteOffset := 24 }, { name := "Defs", type := 64, offset := 4, embedded := false, tag := "", pkgPath := "", byteOffset := 48 }, { name := "Asks", type := 64, offset := 5, embedded := false, tag := "", pkgPath := "", byteOffset := 72 }, { name := "Relocs", type := 101, offset := 6, embedded := false, tag := "", pkgPath := "", byteOffset := 96 }]), 7, 120, [.bool false, .int .i64 0, .int .i64 0, .nilSlice, .nilSlice, .nilSlice, .nilSlice], true, [(0, 1), (1, 1), (2, 1), (3, 1), (4, 1), (5, 1), (6, 1)]⟩
def ty132 : TyI := ⟨(.struct #[{ name := "Exec", type := 4, offset := 0, embedded := false, tag := "", pkgPath := "", byteOffset := 0 }, { name := "Text", type := 3, offset := 1, embedded := false, tag := "", pkgPath := "", byteOffset := 8 }, { name := "Slot", type := 3, offset := 2, embedded := false, tag := "", pkgPath := "", byteOffset := 16 }, { name := "Needs", type := 64, offset := 3, embedded := false, tag := "", pkgPath := "", byteOffset := 24 }, { name := "Defs", type := 64, offset := 4, embedded := false, tag := "", pkgPath := "", byteOffset := 48 }, { name := "Asks", type := 64, offset := 5, embedded := false, tag := "", pkgPath := "", byteOffset := 72 }, { name := "Relocs", type := 101, offset := 6, embedded := false, tag := "", pkgPath := "", byteOffset := 96 }]), 7, 120, [.bool false, .int .i64 0, .int .i64 0, .nilSlice, .nilSlice, .nilSlice, .nilSlice], true, [(0, 1), (1, 1), (2, 1), (3, 1), (4, 1), (5, 1), (6, 1)]⟩
def ty133 : TyI := ⟨(.slice 137), 1, 24, [.nilSlice], true, []⟩
def ty135 : TyI := ⟨(.slice 5), 1, 24, [.nilSlice], true, []⟩
def ty137 : TyI := ⟨(.struct #[{ name := "Name", type := 9, offset := 0, embedded := false, tag := "", pkgPath := "", byteOffset := 0 }, { name := "Data", type := 9, offset := 1, embedded := false, tag := "", pkgPath := "", byteOffset := 16 }]), 2, 32, [.str 0 0, .str 0 0], true, [(0, 1), (1, 1)]⟩
def ty138 : TyI := ⟨(.pointer 265), 1, 8, [.nilPtr], true, []⟩
def ty140 : TyI := ⟨(.pointer 142), 1, 8, [.nilPtr], true, []⟩
def ty142 : TyI := ⟨(.struct #[{ name := "space", type := 48, offset := 0, embedded := false, tag := "", pkgPath := "flyleaf/kernel", byteOffset := 0 }, { name := "heap", type := 3, offset := 1, embedded := false, tag := "", pkgPath := "flyleaf/kernel", byteOffset := 8 }, { name := "pages", type := 3, offset := 2, embedded := false, tag := "", pkgPath := "flyleaf/kernel", byteOffset := 16 }]), 3, 24, [.nilPtr, .int .i64 0, .int .i64 0], true, [(0, 1), (1, 1), (2, 1)]⟩
def ty143 : TyI := ⟨(.map 3 140), 1, 8, [.nilMap], true, []⟩
def ty145 : TyI := ⟨(.struct #[{ name := "files", type := 83, offset := 0, embedded := false, tag := "", pkgPath := "flyleaf/kernel", byteOffset := 0 }, { name := "memory", type := 42, offset := 1, embedded := false, tag := "", pkgPath := "flyleaf/kernel", byteOffset := 8 }, { name := "procs", type := 138, offset := 2, embedded := false, tag := "", pkgPath := "flyleaf/kernel", byteOffset := 16 }, { name := "own", type := 143, offset := 3, embedded := false, tag := "", pkgPath := "flyleaf/kernel", byteOffset := 24 }]), 4, 32, [.nilPtr, .nilPtr, .nilPtr, .nilMap], true, [(0, 1), (1, 1), (2, 1), (3, 1)]⟩
def ty149 : TyI := ⟨(.struct #[{ name := "Op", type := 3, offset := 0, embedded := false, tag := "", pkgPath := "", byteOffset := 0 }, { name := "Pid", type := 3, offset := 1, embedded := false, tag := "", pkgPath := "", byteOffset := 8 }, { name := "Place", type := 3, offset := 2, embedded := false, tag := "", pkgPath := "", byteOffset := 16 }, { name := "At", type := 3, offset := 3, embedded := false, tag := "", pkgPath := "", byteOffset := 24 }, { name := "N", type := 3, offset := 4, embedded := false, tag := "", pkgPath := "", byteOffset := 32 }, { name := "Name", type := 3, offset := 5, embedded := false, tag := "", pkgPath := "", byteOffset := 40 }, { name := "Kind", type := 3, offset := 6, embedded := false, tag := "", pkgPath := "", byteOffset := 48 }, { name := "Bits", type := 67, offset := 7, embedded := false, tag := "", pkgPath := "", byteOffset := 56 }]), 8, 64, [.int .i64 0, .int .i64 0, .int .i64 0, .int .i64 0, .int .i64 0, .int .i64 0, .int .i64 0, .int .u64 0], true, [(0, 1), (1, 1), (2, 1), (3, 1), (4, 1), (5, 1), (6, 1), (7, 1)]⟩
def ty152 : TyI := ⟨(.pointer 268), 1, 8, [.nilPtr], true, []⟩
def ty153 : TyI := ⟨(.pointer 295), 1, 8, [.nilPtr], true, []⟩
def ty154 : TyI := ⟨(.pointer 288), 1, 8, [.nilPtr], true, []⟩
def ty156 : TyI := ⟨(.struct #[{ name := "pool", type := 152, offset := 0, embedded := false, tag := "", pkgPath := "flyleaf/space", byteOffset := 0 }, { name := "files", type := 83, offset := 1, embedded := false, tag := "", pkgPath := "flyleaf/space", byteOffset := 8 }, { name := "cache", type := 153, offset := 2, embedded := false, tag := "", pkgPath := "flyleaf/space", byteOffset := 16 }, { name := "area", type := 154, offset := 3, embedded := false, tag := "", pkgPath := "flyleaf/space", byteOffset := 24 }, { name := "spaces", type := 75, offset := 4, embedded := false, tag := "", pkgPath := "flyleaf/space", byteOffset := 32 }]), 5, 56, [.nilPtr, .nilPtr, .nilPtr, .nilPtr, .nilSlice], true, [(0, 1), (1, 1), (2, 1), (3, 1), (4, 1)]⟩
def ty157 : TyI := ⟨(.pointer 272), 1, 8, [.nilPtr], true, []⟩
def ty161 : TyI := ⟨(.struct #[{ name := "memory", type := 42, offset := 0, embedded := false, tag := "", pkgPath := "flyleaf/space", byteOffset := 0 }, { name := "table", type := 157, offset := 1, embedded := false, tag := "", pkgPath := "flyleaf/space", byteOffset := 8 }, { name := "regions", type := 126, offset := 2, embedded := false, tag := "", pkgPath := "flyleaf/space", byteOffset := 16 }]), 3, 40, [.nilPtr, .nilPtr, .nilSlice], true, [(0, 1), (1, 1), (2, 1)]⟩
def ty169 : TyI := ⟨(.struct #[{ name := "Here", type := 4, offset := 0, embedded := false, tag := "", pkgPath := "", byteOffset := 0 }, { name := "Write", type := 4, offset := 1, embedded := false, tag := "", pkgPath := "", byteOffset := 1 }, { name := "Copy", type := 4, offset := 2, embedded := false, tag := "", pkgPath := "", byteOffset := 2 }, { name := "Out", type := 4, offset := 3, embedded := false, tag := "", pkgPath := "", byteOffset := 3 }, { name := "N", type := 3, offset := 4, embedded := false, tag := "", pkgPath := "", byteOffset := 8 }]), 5, 16, [.bool false, .bool false, .bool false, .bool false, .int .i64 0], true, [(0, 1), (1, 1), (2, 1), (3, 1), (4, 1)]⟩
def ty175 : TyI := ⟨(.slice 178), 1, 24, [.nilSlice], true, []⟩
def ty178 : TyI := ⟨(.struct #[{ name := "Page", type := 3, offset := 0, embedded := false, tag := "", pkgPath := "", byteOffset := 0 }, { name := "Slot", type := 169, offset := 1, embedded := false, tag := "", pkgPath := "", byteOffset := 8 }]), 6, 24, [.int .i64 0, .bool false, .bool false, .bool false, .bool false, .int .i64 0], true, [(0, 1), (1, 5)]⟩
def ty179 : TyI := ⟨(.slice 182), 1, 24, [.nilSlice], true, []⟩
def ty182 : TyI := ⟨(.struct #[{ name := "File", type := 3, offset := 0, embedded := false, tag := "", pkgPath := "", byteOffset := 0 }, { name := "Page", type := 3, offset := 1, embedded := false, tag := "", pkgPath := "", byteOffset := 8 }]), 2, 16, [.int .i64 0, .int .i64 0], true, [(0, 1), (1, 1)]⟩
def ty185 : TyI := ⟨(.map 3 4), 1, 8, [.nilMap], true, []⟩
def ty197 : TyI := ⟨(.slice 204), 1, 24, [.nilSlice], true, []⟩
def ty199 : TyI := ⟨(.struct #[{ name := "S", type := 25, offset := 0, embedded := false, tag := "", pkgPath := "", byteOffset := 0 }, { name := "Used", type := 3, offset := 1, embedded := false, tag := "", pkgPath := "", byteOffset := 24 }, { name := "Nodes", type := 197, offset := 2, embedded := false, tag := "", pkgPath := "", byteOffset := 32 }]), 3, 56, [.nilSlice, .int .i64 0, .nilSlice], true, [(0, 1), (1, 1), (2, 1)]⟩
def ty202 : TyI := ⟨(.slice 206), 1, 24, [.nilSlice], true, []⟩
def ty204 : TyI := ⟨(.struct #[{ name := "Name", type := 9, offset := 0, embedded := false, tag := "", pkgPath := "", byteOffset := 0 }, { name := "Size", type := 3, offset := 1, embedded := false, tag := "", pkgPath := "", byteOffset := 16 }, { name := "Extents", type := 202, offset := 2, embedded := false, tag := "", pkgPath := "", byteOffset := 24 }]), 3, 48, [.str 0 0, .int .i64 0, .nilSlice], true, [(0, 1), (1, 1), (2, 1)]⟩
def ty206 : TyI := ⟨(.struct #[{ name := "At", type := 3, offset := 0, embedded := false, tag := "", pkgPath := "", byteOffset := 0 }, { name := "N", type := 3, offset := 1, embedded := false, tag := "", pkgPath := "", byteOffset := 8 }]), 2, 16, [.int .i64 0, .int .i64 0], true, [(0, 1), (1, 1)]⟩
def ty208 : TyI := ⟨(.pointer 312), 1, 8, [.nilPtr], true, []⟩
def ty210 : TyI := ⟨(.pointer 213), 1, 8, [.nilPtr], true, []⟩
def ty211 : TyI := ⟨(.slice 406), 1, 24, [.nilSlice], true, []⟩
def ty213 : TyI := ⟨(.struct #[{ name := "F", type := 43, offset := 0, embedded := false, tag := "", pkgPath := "", byteOffset := 0 }, { name := "L", type := 126, offset := 1, embedded := false, tag := "", pkgPath := "", byteOffset := 8 }, { name := "P", type := 211, offset := 2, embedded := false, tag := "", pkgPath := "", byteOffset := 32 }]), 3, 56, [.nilPtr, .nilSlice, .nilSlice], true, [(0, 1), (1, 1), (2, 1)]⟩
def ty215 : TyI := ⟨(.struct #[{ name := "Pid", type := 3, offset := 0, embedded := false, tag := "", pkgPath := "", byteOffset := 0 }, { name := "S", type := 210, offset := 1, embedded := false, tag := "", pkgPath := "", byteOffset := 8 }, { name := "Heap", type := 3, offset := 2, embedded := false, tag := "", pkgPath := "", byteOffset := 16 }, { name := "Pages", type := 3, offset := 3, embedded := false, tag := "", pkgPath := "", byteOffset := 24 }]), 4, 32, [.int .i64 0, .nilPtr, .int .i64 0, .int .i64 0], true, [(0, 1), (1, 1), (2, 1), (3, 1)]⟩
def ty216 : TyI := ⟨(.slice 215), 1, 24, [.nilSlice], true, []⟩
def ty218 : TyI := ⟨(.struct #[{ name := "F", type := 43, offset := 0, embedded := false, tag := "", pkgPath := "", byteOffset := 0 }, { name := "T", type := 208, offset := 1, embedded := false, tag := "", pkgPath := "", byteOffset := 8 }, { name := "M", type := 216, offset := 2, embedded := false, tag := "", pkgPath := "", byteOffset := 16 }]), 3, 40, [.nilPtr, .nilPtr, .nilSlice], true, [(0, 1), (1, 1), (2, 1)]⟩
def ty220 : TyI := ⟨(.func #[140, 69] #[71] false), 1, 8, [.nilFunc], true, []⟩
def ty229 : TyI := ⟨(.struct #[{ name := "Pid", type := 3, offset := 0, embedded := false, tag := "", pkgPath := "", byteOffset := 0 }, { name := "Code", type := 3, offset := 1, embedded := false, tag := "", pkgPath := "", byteOffset := 8 }, { name := "E", type := 29, offset := 2, embedded := false, tag := "", pkgPath := "", byteOffset := 16 }]), 3, 24, [.int .i64 0, .int .i64 0, .int .i64 0], true, [(0, 1), (1, 1), (2, 1)]⟩
def ty232 : TyI := ⟨(.map 9 3), 1, 8, [.nilMap], true, []⟩
def ty234 : TyI := ⟨(.struct #[{ name := "disk", type := 32, offset := 0, embedded := false, tag := "", pkgPath := "flyleaf/files", byteOffset := 0 }, { name := "used", type := 3, offset := 1, embedded := false, tag := "", pkgPath := "flyleaf/files", byteOffset := 8 }, { name := "nodes", type := 197, offset := 2, embedded := false, tag := "", pkgPath := "flyleaf/files", byteOffset := 16 }, { name := "names", type := 232, offset := 3, embedded := false, tag := "", pkgPath := "flyleaf/files", byteOffset := 40 }]), 4, 48, [.nilPtr, .int .i64 0, .nilSlice, .nilMap], true, [(0, 1), (1, 1), (2, 1), (3, 1)]⟩
def ty244 : TyI := ⟨(.struct #[{ name := "bytes", type := 135, offset := 0, embedded := false, tag := "", pkgPath := "flyleaf/block", byteOffset := 0 }, { name := "sealed", type := 3, offset := 1, embedded := false, tag := "", pkgPath := "flyleaf/block", byteOffset := 24 }, { name := "reads", type := 3, offset := 2, embedded := false, tag := "", pkgPath := "flyleaf/block", byteOffset := 32 }, { name := "writes", type := 3, offset := 3, embedded := false, tag := "", pkgPath := "flyleaf/block", byteOffset := 40 }]), 4, 48, [.nilSlice, .int .i64 0, .int .i64 0, .int .i64 0], true, [(0, 1), (1, 1), (2, 1), (3, 1)]⟩
def ty247 : TyI := ⟨(.struct #[{ name := "S", type := 48, offset := 0, embedded := false, tag := "", pkgPath := "", byteOffset := 0 }, { name := "R", type := 210, offset := 1, embedded := false, tag := "", pkgPath := "", byteOffset := 8 }]), 2, 16, [.nilPtr, .nilPtr], true, [(0, 1), (1, 1)]⟩
def ty248 : TyI := ⟨(.slice 247), 1, 24, [.nilSlice], true, []⟩
def ty250 : TyI := ⟨(.struct #[{ name := "Kind", type := 3, offset := 0, embedded := false, tag := "", pkgPath := "", byteOffset := 0 }, { name := "Space", type := 3, offset := 1, embedded := false, tag := "", pkgPath := "", byteOffset := 8 }, { name := "At", type := 3, offset := 2, embedded := false, tag := "", pkgPath := "", byteOffset := 16 }, { name := "From", type := 3, offset := 3, embedded := false, tag := "", pkgPath := "", byteOffset := 24 }, { name := "To", type := 3, offset := 4, embedded := false, tag := "", pkgPath := "", byteOffset := 32 }, { name := "Perm", type := 3, offset := 5, embedded := false, tag := "", pkgPath := "", byteOffset := 40 }, { name := "Byte", type := 5, offset := 6, embedded := false, tag := "", pkgPath := "", byteOffset := 48 }]), 7, 56, [.int .i64 0, .int .i64 0, .int .i64 0, .int .i64 0, .int .i64 0, .int .i64 0, .int .u8 0], true, [(0, 1), (1, 1), (2, 1), (3, 1), (4, 1), (5, 1), (6, 1)]⟩
def ty255 : TyI := ⟨(.array 10 3), 10, 80, [.int .i64 0, .int .i64 0, .int .i64 0, .int .i64 0, .int .i64 0, .int .i64 0, .int .i64 0, .int .i64 0, .int .i64 0, .int .i64 0], true, []⟩
def ty258 : TyI := ⟨(.array 8 3), 8, 64, [.int .i64 0, .int .i64 0, .int .i64 0, .int .i64 0, .int .i64 0, .int .i64 0, .int .i64 0, .int .i64 0], true, []⟩
def ty263 : TyI := ⟨(.map 3 63), 1, 8, [.nilMap], true, []⟩
def ty265 : TyI := ⟨(.struct #[{ name := "procs", type := 263, offset := 0, embedded := false, tag := "", pkgPath := "flyleaf/proc", byteOffset := 0 }]), 1, 8, [.nilMap], true, [(0, 1)]⟩
def ty268 : TyI := ⟨(.struct #[{ name := "bytes", type := 135, offset := 0, embedded := false, tag := "", pkgPath := "flyleaf/frames", byteOffset := 0 }, { name := "held", type := 64, offset := 1, embedded := false, tag := "", pkgPath := "flyleaf/frames", byteOffset := 24 }, { name := "free", type := 3, offset := 2, embedded := false, tag := "", pkgPath := "flyleaf/frames", byteOffset := 48 }]), 3, 56, [.nilSlice, .nilSlice, .int .i64 0], true, [(0, 1), (1, 1), (2, 1)]⟩
def ty269 : TyI := ⟨(.array 3 41), 3, 24, [.nilFunc, .nilFunc, .nilFunc], true, []⟩
def ty272 : TyI := ⟨(.struct #[{ name := "pool", type := 152, offset := 0, embedded := false, tag := "", pkgPath := "flyleaf/radix", byteOffset := 0 }, { name := "root", type := 3, offset := 1, embedded := false, tag := "", pkgPath := "flyleaf/radix", byteOffset := 8 }, { name := "nodes", type := 3, offset := 2, embedded := false, tag := "", pkgPath := "flyleaf/radix", byteOffset := 16 }]), 3, 24, [.nilPtr, .int .i64 0, .int .i64 0], true, [(0, 1), (1, 1), (2, 1)]⟩
def ty286 : TyI := ⟨(.func #[135] #[] false), 1, 8, [.nilFunc], true, []⟩
def ty288 : TyI := ⟨(.struct #[{ name := "disk", type := 32, offset := 0, embedded := false, tag := "", pkgPath := "flyleaf/swap", byteOffset := 0 }, { name := "first", type := 3, offset := 1, embedded := false, tag := "", pkgPath := "flyleaf/swap", byteOffset := 8 }, { name := "held", type := 64, offset := 2, embedded := false, tag := "", pkgPath := "flyleaf/swap", byteOffset := 16 }, { name := "used", type := 3, offset := 3, embedded := false, tag := "", pkgPath := "flyleaf/swap", byteOffset := 40 }]), 4, 48, [.nilPtr, .int .i64 0, .nilSlice, .int .i64 0], true, [(0, 1), (1, 1), (2, 1), (3, 1)]⟩
def ty292 : TyI := ⟨(.map 182 296), 1, 8, [.nilMap], true, []⟩
def ty293 : TyI := ⟨(.slice 296), 1, 24, [.nilSlice], true, []⟩
def ty295 : TyI := ⟨(.struct #[{ name := "pool", type := 152, offset := 0, embedded := false, tag := "", pkgPath := "flyleaf/cache", byteOffset := 0 }, { name := "files", type := 83, offset := 1, embedded := false, tag := "", pkgPath := "flyleaf/cache", byteOffset := 8 }, { name := "pages", type := 292, offset := 2, embedded := false, tag := "", pkgPath := "flyleaf/cache", byteOffset := 16 }, { name := "ring", type := 293, offset := 3, embedded := false, tag := "", pkgPath := "flyleaf/cache", byteOffset := 24 }, { name := "hand", type := 3, offset := 4, embedded := false, tag := "", pkgPath := "flyleaf/cache", byteOffset := 48 }, { name := "hits", type := 3, offset := 5, embedded := false, tag := "", pkgPath := "flyleaf/cache", byteOffset := 56 }, { name := "fills", type := 3, offset := 6, embedded := false, tag := "", pkgPath := "flyleaf/cache", byteOffset := 64 }]), 7, 72, [.nilPtr, .nilPtr, .nilMap, .nilSlice, .int .i64 0, .int .i64 0, .int .i64 0], true, [(0, 1), (1, 1), (2, 1), (3, 1), (4, 1), (5, 1), (6, 1)]⟩
def ty296 : TyI := ⟨(.pointer 298), 1, 8, [.nilPtr], true, []⟩
def ty298 : TyI := ⟨(.struct #[{ name := "key", type := 182, offset := 0, embedded := false, tag := "", pkgPath := "flyleaf/cache", byteOffset := 0 }, { name := "frame", type := 3, offset := 2, embedded := false, tag := "", pkgPath := "flyleaf/cache", byteOffset := 16 }, { name := "fresh", type := 4, offset := 3, embedded := false, tag := "", pkgPath := "flyleaf/cache", byteOffset := 24 }]), 4, 32, [.int .i64 0, .int .i64 0, .int .i64 0, .bool false], true, [(0, 2), (2, 1), (3, 1)]⟩
def ty312 : TyI := ⟨(.struct #[{ name := "L", type := 60, offset := 0, embedded := false, tag := "", pkgPath := "", byteOffset := 0 }]), 1, 24, [.nilSlice], true, [(0, 1)]⟩
def ty313 : TyI := ⟨(.slice 334), 1, 24, [.nilSlice], true, []⟩
def ty314 : TyI := ⟨(.slice 323), 1, 24, [.nilSlice], true, []⟩
def ty316 : TyI := ⟨(.struct #[{ name := "Entry", type := 3, offset := 0, embedded := false, tag := "", pkgPath := "", byteOffset := 0 }, { name := "Modules", type := 313, offset := 1, embedded := false, tag := "", pkgPath := "", byteOffset := 8 }, { name := "Regions", type := 126, offset := 2, embedded := false, tag := "", pkgPath := "", byteOffset := 32 }, { name := "Zeros", type := 202, offset := 3, embedded := false, tag := "", pkgPath := "", byteOffset := 56 }, { name := "Puts", type := 314, offset := 4, embedded := false, tag := "", pkgPath := "", byteOffset := 80 }]), 5, 104, [.int .i64 0, .nilSlice, .nilSlice, .nilSlice, .nilSlice], true, [(0, 1), (1, 1), (2, 1), (3, 1), (4, 1)]⟩
def ty320 : TyI := ⟨(.struct #[{ name := "Sp", type := 3, offset := 0, embedded := false, tag := "", pkgPath := "", byteOffset := 0 }, { name := "S", type := 9, offset := 1, embedded := false, tag := "", pkgPath := "", byteOffset := 8 }, { name := "E", type := 29, offset := 2, embedded := false, tag := "", pkgPath := "", byteOffset := 24 }]), 3, 32, [.int .i64 0, .str 0 0, .int .i64 0], true, [(0, 1), (1, 1), (2, 1)]⟩
def ty323 : TyI := ⟨(.struct #[{ name := "At", type := 3, offset := 0, embedded := false, tag := "", pkgPath := "", byteOffset := 0 }, { name := "Value", type := 67, offset := 1, embedded := false, tag := "", pkgPath := "", byteOffset := 8 }]), 2, 16, [.int .i64 0, .int .u64 0], true, [(0, 1), (1, 1)]⟩
def ty324 : TyI := ⟨(.slice 352), 1, 24, [.nilSlice], true, []⟩
def ty326 : TyI := ⟨(.struct #[{ name := "Kind", type := 3, offset := 0, embedded := false, tag := "", pkgPath := "", byteOffset := 0 }, { name := "Entry", type := 3, offset := 1, embedded := false, tag := "", pkgPath := "", byteOffset := 8 }, { name := "Segments", type := 324, offset := 2, embedded := false, tag := "", pkgPath := "", byteOffset := 16 }]), 3, 40, [.int .i64 0, .int .i64 0, .nilSlice], true, [(0, 1), (1, 1), (2, 1)]⟩
def ty328 : TyI := ⟨(.struct #[{ name := "Needed", type := 64, offset := 0, embedded := false, tag := "", pkgPath := "", byteOffset := 0 }, { name := "Names", type := 3, offset := 1, embedded := false, tag := "", pkgPath := "", byteOffset := 24 }, { name := "NamesSize", type := 3, offset := 2, embedded := false, tag := "", pkgPath := "", byteOffset := 32 }, { name := "Symbols", type := 3, offset := 3, embedded := false, tag := "", pkgPath := "", byteOffset := 40 }, { name := "Hash", type := 3, offset := 4, embedded := false, tag := "", pkgPath := "", byteOffset := 48 }, { name := "Relocs", type := 3, offset := 5, embedded := false, tag := "", pkgPath := "", byteOffset := 56 }, { name := "RelocsSize", type := 3, offset := 6, embedded := false, tag := "", pkgPath := "", byteOffset := 64 }, { name := "Own", type := 3, offset := 7, embedded := false, tag := "", pkgPath := "", byteOffset := 72 }, { name := "Slot", type := 3, offset := 8, embedded := false, tag := "", pkgPath := "", byteOffset := 80 }]), 9, 88, [.nilSlice, .int .i64 0, .int .i64 0, .int .i64 0, .int .i64 0, .int .i64 0, .int .i64 0, .int .i64 0, .int .i64 0], true, [(0, 1), (1, 1), (2, 1), (3, 1), (4, 1), (5, 1), (6, 1), (7, 1), (8, 1)]⟩
def ty330 : TyI := ⟨(.struct #[{ name := "File", type := 3, offset := 0, embedded := false, tag := "", pkgPath := "", byteOffset := 0 }, { name := "Name", type := 9, offset := 1, embedded := false, tag := "", pkgPath := "", byteOffset := 8 }, { name := "X", type := 326, offset := 2, embedded := false, tag := "", pkgPath := "", byteOffset := 24 }, { name := "View", type := 9, offset := 5, embedded := false, tag := "", pkgPath := "", byteOffset := 64 }, { name := "D", type := 328, offset := 6, embedded := false, tag := "", pkgPath := "", byteOffset := 80 }, { name := "Base", type := 3, offset := 15, embedded := false, tag := "", pkgPath := "", byteOffset := 168 }]), 16, 176, [.int .i64 0, .str 0 0, .int .i64 0, .int .i64 0, .nilSlice, .str 0 0, .nilSlice, .int .i64 0, .int .i64 0, .int .i64 0, .int .i64 0, .int .i64 0, .int .i64 0, .int .i64 0, .int .i64 0, .int .i64 0], true, [(0, 1), (1, 1), (2, 3), (5, 1), (6, 9), (15, 1)]⟩
def ty334 : TyI := ⟨(.struct #[{ name := "File", type := 3, offset := 0, embedded := false, tag := "", pkgPath := "", byteOffset := 0 }, { name := "Base", type := 3, offset := 1, embedded := false, tag := "", pkgPath := "", byteOffset := 8 }, { name := "Name", type := 9, offset := 2, embedded := false, tag := "", pkgPath := "", byteOffset := 16 }]), 3, 32, [.int .i64 0, .int .i64 0, .str 0 0], true, [(0, 1), (1, 1), (2, 1)]⟩
def ty344 : TyI := ⟨(.array 11 3), 11, 88, [.int .i64 0, .int .i64 0, .int .i64 0, .int .i64 0, .int .i64 0, .int .i64 0, .int .i64 0, .int .i64 0, .int .i64 0, .int .i64 0, .int .i64 0], true, []⟩
def ty352 : TyI := ⟨(.struct #[{ name := "Type", type := 3, offset := 0, embedded := false, tag := "", pkgPath := "", byteOffset := 0 }, { name := "Flags", type := 3, offset := 1, embedded := false, tag := "", pkgPath := "", byteOffset := 8 }, { name := "Off", type := 3, offset := 2, embedded := false, tag := "", pkgPath := "", byteOffset := 16 }, { name := "Addr", type := 3, offset := 3, embedded := false, tag := "", pkgPath := "", byteOffset := 24 }, { name := "Size", type := 3, offset := 4, embedded := false, tag := "", pkgPath := "", byteOffset := 32 }, { name := "Mem", type := 3, offset := 5, embedded := false, tag := "", pkgPath := "", byteOffset := 40 }, { name := "Align", type := 3, offset := 6, embedded := false, tag := "", pkgPath := "", byteOffset := 48 }]), 7, 56, [.int .i64 0, .int .i64 0, .int .i64 0, .int .i64 0, .int .i64 0, .int .i64 0, .int .i64 0], true, [(0, 1), (1, 1), (2, 1), (3, 1), (4, 1), (5, 1), (6, 1)]⟩
def ty366 : TyI := ⟨(.func #[178] #[4] false), 1, 8, [.nilFunc], true, []⟩
def ty377 : TyI := ⟨(.slice 330), 1, 24, [.nilSlice], true, []⟩
def ty380 : TyI := ⟨(.slice 382), 1, 24, [.nilSlice], true, []⟩
def ty382 : TyI := ⟨(.struct #[{ name := "Size", type := 3, offset := 0, embedded := false, tag := "", pkgPath := "", byteOffset := 0 }, { name := "Slot", type := 3, offset := 1, embedded := false, tag := "", pkgPath := "", byteOffset := 8 }]), 2, 16, [.int .i64 0, .int .i64 0], true, [(0, 1), (1, 1)]⟩
def ty392 : TyI := ⟨(.slice 395), 1, 24, [.nilSlice], true, []⟩
def ty395 : TyI := ⟨(.struct #[{ name := "R", type := 47, offset := 0, embedded := false, tag := "", pkgPath := "", byteOffset := 0 }, { name := "Is", type := 4, offset := 6, embedded := false, tag := "", pkgPath := "", byteOffset := 48 }]), 7, 56, [.int .i64 0, .int .i64 0, .int .i64 0, .int .i64 0, .int .i64 0, .int .i64 0, .bool false], true, [(0, 6), (6, 1)]⟩
def ty406 : TyI := ⟨(.struct #[{ name := "Page", type := 3, offset := 0, embedded := false, tag := "", pkgPath := "", byteOffset := 0 }, { name := "S", type := 9, offset := 1, embedded := false, tag := "", pkgPath := "", byteOffset := 8 }]), 2, 24, [.int .i64 0, .str 0 0], true, [(0, 1), (1, 1)]⟩
def ty410 : TyI := ⟨(.int .u64), 1, 8, [.int .u64 0], true, []⟩
def ty414 : TyI := ⟨(.struct #[{ name := "Name", type := 3, offset := 0, embedded := false, tag := "", pkgPath := "", byteOffset := 0 }, { name := "Defined", type := 4, offset := 1, embedded := false, tag := "", pkgPath := "", byteOffset := 8 }, { name := "Value", type := 3, offset := 2, embedded := false, tag := "", pkgPath := "", byteOffset := 16 }]), 3, 24, [.int .i64 0, .bool false, .int .i64 0], true, [(0, 1), (1, 1), (2, 1)]⟩
def ty417 : TyI := ⟨(.struct #[{ name := "At", type := 3, offset := 0, embedded := false, tag := "", pkgPath := "", byteOffset := 0 }, { name := "Kind", type := 3, offset := 1, embedded := false, tag := "", pkgPath := "", byteOffset := 8 }, { name := "Symbol", type := 3, offset := 2, embedded := false, tag := "", pkgPath := "", byteOffset := 16 }, { name := "Add", type := 2, offset := 3, embedded := false, tag := "", pkgPath := "", byteOffset := 24 }]), 4, 32, [.int .i64 0, .int .i64 0, .int .i64 0, .int .i64 0], true, [(0, 1), (1, 1), (2, 1), (3, 1)]⟩
def ty426 : TyI := ⟨(.slice 430), 1, 24, [.nilSlice], true, []⟩
def ty430 : TyI := ⟨(.pointer 434), 1, 8, [.nilPtr], true, []⟩
def ty434 : TyI := ⟨(.struct #[{ name := "Module", type := 334, offset := 0, embedded := true, tag := "", pkgPath := "", byteOffset := 0 }, { name := "image", type := 326, offset := 3, embedded := false, tag := "", pkgPath := "flyleaf/load", byteOffset := 32 }, { name := "view", type := 9, offset := 6, embedded := false, tag := "", pkgPath := "flyleaf/load", byteOffset := 72 }, { name := "table", type := 328, offset := 7, embedded := false, tag := "", pkgPath := "flyleaf/load", byteOffset := 88 }]), 16, 176, [.int .i64 0, .int .i64 0, .str 0 0, .int .i64 0, .int .i64 0, .nilSlice, .str 0 0, .nilSlice, .int .i64 0, .int .i64 0, .int .i64 0, .int .i64 0, .int .i64 0, .int .i64 0, .int .i64 0, .int .i64 0], true, [(0, 3), (3, 3), (6, 1), (7, 9)]⟩
def ty438 : TyI := ⟨(.pointer 440), 1, 8, [.nilPtr], true, []⟩
def ty440 : TyI := ⟨(.struct #[{ name := "addr", type := 438, offset := 0, embedded := false, tag := "", pkgPath := "strings", byteOffset := 0 }, { name := "buf", type := 135, offset := 1, embedded := false, tag := "", pkgPath := "strings", byteOffset := 8 }]), 2, 32, [.nilPtr, .nilSlice], true, [(0, 1), (1, 1)]⟩
def ty445 : TyI := ⟨(.array 2 25), 2, 48, [.nilSlice, .nilSlice], true, []⟩
def ty451 : TyI := ⟨(.slice 454), 1, 24, [.nilSlice], true, []⟩
def ty454 : TyI := ⟨(.struct #[{ name := "Name", type := 9, offset := 0, embedded := false, tag := "", pkgPath := "", byteOffset := 0 }, { name := "Needed", type := 25, offset := 1, embedded := false, tag := "", pkgPath := "", byteOffset := 16 }]), 2, 40, [.str 0 0, .nilSlice], true, [(0, 1), (1, 1)]⟩
def ty458 : TyI := ⟨(.slice 417), 1, 24, [.nilSlice], true, []⟩
def ty467 : TyI := ⟨(.array 10 67), 10, 80, [.int .u64 0, .int .u64 0, .int .u64 0, .int .u64 0, .int .u64 0, .int .u64 0, .int .u64 0, .int .u64 0, .int .u64 0, .int .u64 0], true, []⟩
def ty468 : TyI := ⟨(.array 10 4), 10, 10, [.bool false, .bool false, .bool false, .bool false, .bool false, .bool false, .bool false, .bool false, .bool false, .bool false], true, []⟩
def ty475 : TyI := ⟨(.int .u32), 1, 4, [.int .u32 0], true, []⟩
def ty488 : TyI := ⟨(.map 9 430), 1, 8, [.nilMap], true, []⟩
def ty493 : TyI := ⟨(.map 67 4), 1, 8, [.nilMap], true, []⟩
def ty494 : TyI := ⟨(.pointer 3), 1, 8, [.nilPtr], true, []⟩
def ty501 : TyI := ⟨(.struct #[{ name := "Names", type := 25, offset := 0, embedded := false, tag := "", pkgPath := "", byteOffset := 0 }, { name := "Depths", type := 64, offset := 1, embedded := false, tag := "", pkgPath := "", byteOffset := 24 }, { name := "Missing", type := 25, offset := 2, embedded := false, tag := "", pkgPath := "", byteOffset := 48 }]), 3, 72, [.nilSlice, .nilSlice, .nilSlice], true, [(0, 1), (1, 1), (2, 1)]⟩
def ty515 : TyI := ⟨(.map 9 25), 1, 8, [.nilMap], true, []⟩
def ty529 : TyI := ⟨(.array 6 3), 6, 48, [.int .i64 0, .int .i64 0, .int .i64 0, .int .i64 0, .int .i64 0, .int .i64 0], true, []⟩
def ty535 : TyI := ⟨(.map 9 4), 1, 8, [.nilMap], true, []⟩
def ty539 : TyI := ⟨(.array 5 3), 5, 40, [.int .i64 0, .int .i64 0, .int .i64 0, .int .i64 0, .int .i64 0], true, []⟩
def tyTree : Tr TyI := (.node (.node (.node (.node (.node (.node (.node (.node (.node .nil (some ty255) .nil) none .nil) (some ty63) .nil) none .nil) none (.node (.node (.node .nil (some ty143) .nil) none .nil) (some ty47) (.node (.node .nil (some ty175) .nil) none .nil))) none (.node (.node (.node (.node (.node .nil (some ty263) .nil) (some ty135) .nil) (some ty71) (.node .nil (some ty199) .nil)) none (.node (.node (.node .nil (some ty295) .nil) none .nil) (some ty103) .nil)) (some ty23) (.node (.node (.node (.node (.node .nil (some ty535) .nil) none .nil) none .nil) none (.node .nil (some ty215) .nil)) none (.node .nil none (.node .nil (some ty247) .nil))))) (some ty3) (.node (.node (.node (.node (.node (.node (.node .nil (some ty515) .nil) none .nil) (some ty131) .nil) (some ty67) (.node (.node .nil (some ty323) .nil) none (.node .nil (some ty451) .nil))) none .nil) none (.node (.node .nil (some ty83) (.node .nil (some ty211) (.node .nil (some ty467) .nil))) none (.node (.node .nil (some ty179) .nil) (some ty115) .nil))) none (.node (.node (.node (.node .nil none (.node .nil (some ty395) .nil)) (some ty75) .nil) (some ty43) (.node .nil (some ty107) .nil)) (some ty27) (.node (.node (.node (.node (.node .nil (some ty539) .nil) none .nil) none .nil) none (.node .nil none (.node .nil (some ty475) .nil))) (some ty59) .nil)))) none (.node (.node (.node (.node .nil none (.node (.node .nil (some ty161) (.node .nil (some ty417) .nil)) none .nil)) none (.node (.node (.node (.node (.node .nil (some ty529) .nil) none .nil) (some ty145) .nil) none .nil) none (.node .nil (some ty113) .nil))) (some ty9) (.node (.node (.node (.node (.node .nil (some ty265) .nil) (some ty137) .nil) none .nil) (some ty41) (.node (.node .nil (some ty169) .nil) none .nil)) (some ty25) (.node (.node (.node .nil (some ty153) .nil) none .nil) none (.node (.node (.node .nil (some ty313) .nil) (some ty185) .nil) (some ty121) (.node (.node .nil (some ty377) .nil) none .nil))))) (some ty5) (.node (.node (.node (.node (.node .nil (some ty133) .nil) (some ty69) (.node .nil (some ty197) .nil)) none (.node (.node (.node .nil (some ty293) .nil) none .nil) (some ty101) (.node .nil (some ty229) .nil))) none (.node (.node (.node .nil (some ty149) .nil) none (.node .nil (some ty213) .nil)) none (.node .nil (some ty117) (.node .nil none (.node .nil (some ty501) .nil))))) none (.node (.node (.node (.node (.node .nil (some ty269) .nil) none .nil) none .nil) none (.node .nil (some ty109) (.node .nil none (.node .nil (some ty493) .nil)))) (some ty29) (.node (.node (.node .nil (some ty157) .nil) none .nil) none (.node (.node .nil none (.node .nil (some ty445) .nil)) none .nil)))))) none (.node (.node (.node (.node (.node (.node (.node .nil (some ty128) .nil) (some ty64) (.node (.node .nil (some ty320) .nil) none .nil)) (some ty32) (.node (.node (.node .nil (some ty288) .nil) none .nil) none (.node (.node .nil (some ty352) .nil) none .nil))) none (.node (.node (.node (.node .nil (some ty272) .nil) none .nil) none (.node .nil (some ty208) .nil)) (some ty48) .nil)) none (.node (.node (.node (.node .nil none (.node .nil (some ty392) .nil)) none (.node (.node .nil (some ty328) .nil) none .nil)) none (.node (.node (.node .nil (some ty296) .nil) none .nil) (some ty104) (.node .nil (some ty232) (.node .nil (some ty488) .nil)))) (some ty24) (.node (.node (.node .nil (some ty152) .nil) none (.node (.node .nil (some ty344) .nil) (some ty216) .nil)) none (.node (.node (.node .nil (some ty312) .nil) none (.node .nil (some ty440) .nil)) none (.node .nil (some ty248) .nil))))) (some ty4) (.node (.node (.node (.node (.node .nil (some ty132) .nil) none (.node (.node .nil (some ty324) .nil) none .nil)) (some ty36) (.node (.node (.node .nil (some ty292) .nil) none .nil) none .nil)) none (.node (.node .nil none (.node .nil none (.node .nil (some ty468) .nil))) none (.node .nil none (.node .nil (some ty244) .nil)))) none (.node (.node (.node (.node (.node .nil (some ty268) .nil) (some ty140) .nil) none (.node .nil (some ty204) .nil)) none .nil) (some ty28) (.node (.node (.node .nil (some ty156) .nil) none (.node .nil (some ty220) .nil)) (some ty60) (.node (.node (.node .nil (some ty316) .nil) none .nil) (some ty124) (.node (.node .nil (some ty380) .nil) none .nil)))))) (some ty2) (.node (.node (.node (.node (.node (.node (.node .nil (some ty258) .nil) (some ty130) .nil) none .nil) (some ty34) .nil) none (.node (.node .nil none (.node .nil (some ty210) .nil)) none (.node (.node .nil (some ty178) (.node .nil (some ty434) .nil)) none .nil))) none (.node (.node (.node (.node .nil (some ty138) .nil) none (.node (.node .nil (some ty330) .nil) (some ty202) (.node .nil (some ty458) .nil))) (some ty42) (.node (.node (.node .nil (some ty298) .nil) none (.node .nil (some ty426) .nil)) none (.node .nil (some ty234) .nil))) none (.node (.node (.node .nil (some ty154) (.node .nil (some ty410) .nil)) (some ty90) (.node .nil (some ty218) .nil)) none (.node (.node (.node .nil (some ty314) .nil) none .nil) none (.node .nil (some ty250) .nil))))) none (.node (.node (.node (.node .nil none (.node (.node .nil (some ty326) .nil) none (.node .nil (some ty454) .nil))) none .nil) (some ty22) (.node (.node (.node .nil none (.node .nil (some ty406) .nil)) none .nil) none (.node (.node .nil (some ty182) (.node .nil (some ty438) .nil)) none .nil))) none (.node (.node (.node (.node .nil (some ty142) .nil) none (.node (.node .nil (some ty334) .nil) (some ty206) .nil)) none (.node (.node .nil none (.node .nil (some ty430) .nil)) none (.node (.node .nil (some ty366) .nil) none (.node .nil (some ty494) .nil)))) none (.node (.node (.node (.node .nil (some ty286) .nil) none (.node .nil (some ty414) .nil)) none .nil) none (.node .nil (some ty126) (.node (.node .nil (some ty382) .nil) none .nil))))))))
noncomputable def fnTree : Tr Func := (.node (.node (.node (.node (.node (.node (.node (.node (.node .nil (some Tryz.f255) .nil) (some Tryz.f127) .nil) (some Tryz.f63) (.node (.node .nil (some Tryz.f319) .nil) (some Tryz.f191) (.node .nil (some Tryz.f447) .nil))) (some Tryz.f31) (.node (.node (.node .nil (some Tryz.f287) .nil) (some Tryz.f159) (.node .nil (some Tryz.f415) .nil)) (some Tryz.f95) (.node (.node .nil (some Tryz.f351) .nil) (some Tryz.f223) .nil))) (some Tryz.f15) (.node (.node (.node (.node .nil (some Tryz.f271) .nil) (some Tryz.f143) (.node .nil (some Tryz.f399) .nil)) (some Tryz.f79) (.node (.node .nil (some Tryz.f335) .nil) (some Tryz.f207) (.node .nil (some Tryz.f463) .nil))) (some Tryz.f47) (.node (.node (.node .nil (some Tryz.f303) .nil) (some Tryz.f175) .nil) (some Tryz.f111) (.node (.node .nil (some Tryz.f367) .nil) (some Tryz.f239) .nil)))) (some Tryz.f7) (.node (.node (.node (.node (.node .nil (some Tryz.f263) .nil) (some Tryz.f135) (.node .nil (some Tryz.f391) .nil)) (some Tryz.f71) (.node (.node .nil (some Tryz.f327) .nil) (some Tryz.f199) (.node .nil (some Tryz.f455) .nil))) (some Tryz.f39) (.node (.node (.node .nil (some Tryz.f295) .nil) (some Tryz.f167) .nil) (some Tryz.f103) (.node (.node .nil (some Tryz.f359) .nil) (some Tryz.f231) .nil))) (some Tryz.f23) (.node (.node (.node (.node .nil (some Tryz.f279) .nil) (some Tryz.f151) (.node .nil (some Tryz.f407) .nil)) (some Tryz.f87) (.node (.node .nil (some Tryz.f343) .nil) (some Tryz.f215) (.node .nil (some Tryz.f471) .nil))) (some Tryz.f55) (.node (.node (.node .nil (some Tryz.f311) .nil) (some Tryz.f183) (.node .nil (some Tryz.f439) .nil)) (some Tryz.f119) (.node (.node .nil (some Tryz.f375) .nil) (some Tryz.f247) .nil))))) (some Tryz.f3) (.node (.node (.node (.node (.node .nil (some Tryz.f131) .nil) (some Tryz.f67) (.node .nil (some Tryz.f195) (.node .nil (some Tryz.f451) .nil))) (some Tryz.f35) (.node (.node (.node .nil (some Tryz.f291) .nil) (some Tryz.f163) (.node .nil (some Tryz.f419) .nil)) (some Tryz.f99) (.node (.node .nil (some Tryz.f355) .nil) (some Tryz.f227) .nil))) (some Tryz.f19) (.node (.node (.node (.node .nil (some Tryz.f275) .nil) (some Tryz.f147) (.node .nil (some Tryz.f403) .nil)) (some Tryz.f83) (.node (.node .nil (some Tryz.f339) .nil) (some Tryz.f211) (.node .nil (some Tryz.f467) .nil))) (some Tryz.f51) (.node (.node (.node .nil (some Tryz.f307) .nil) (some Tryz.f179) .nil) (some Tryz.f115) (.node (.node .nil (some Tryz.f371) .nil) (some Tryz.f243) .nil)))) (some Tryz.f11) (.node (.node (.node (.node (.node .nil (some Tryz.f267) .nil) (some Tryz.f139) (.node .nil (some Tryz.f395) .nil)) (some Tryz.f75) (.node (.node .nil (some Tryz.f331) .nil) (some Tryz.f203) (.node .nil (some Tryz.f459) .nil))) (some Tryz.f43) (.node (.node (.node .nil (some Tryz.f299) .nil) (some Tryz.f171) (.node .nil (some Tryz.f427) .nil)) (some Tryz.f107) (.node (.node .nil (some Tryz.f363) .nil) (some Tryz.f235) .nil))) (some Tryz.f27) (.node (.node (.node (.node .nil (some Tryz.f283) .nil) (some Tryz.f155) (.node .nil (some Tryz.f411) .nil)) (some Tryz.f91) (.node (.node .nil (some Tryz.f347) .nil) (some Tryz.f219) .nil)) (some Tryz.f59) (.node (.node (.node .nil (some Tryz.f315) .nil) (some Tryz.f187) (.node .nil (some Tryz.f443) .nil)) (some Tryz.f123) (.node (.node .nil (some Tryz.f379) .nil) (some Tryz.f251) .nil)))))) none (.node (.node (.node (.node (.node (.node (.node .nil (some Tryz.f257) .nil) (some Tryz.f129) .nil) (some Tryz.f65) (.node (.node .nil (some Tryz.f321) .nil) (some Tryz.f193) (.node .nil (some Tryz.f449) .nil))) (some Tryz.f33) (.node (.node (.node .nil (some Tryz.f289) .nil) (some Tryz.f161) (.node .nil (some Tryz.f417) .nil)) (some Tryz.f97) (.node (.node .nil (some Tryz.f353) .nil) (some Tryz.f225) .nil))) (some Tryz.f17) (.node (.node (.node (.node .nil (some Tryz.f273) .nil) (some Tryz.f145) (.node .nil (some Tryz.f401) .nil)) (some Tryz.f81) (.node (.node .nil (some Tryz.f337) .nil) (some Tryz.f209) (.node .nil (some Tryz.f465) .nil))) (some Tryz.f49) (.node (.node (.node .nil (some Tryz.f305) .nil) (some Tryz.f177) .nil) (some Tryz.f113) (.node .nil (some Tryz.f241) .nil)))) (some Tryz.f9) (.node (.node (.node (.node (.node .nil (some Tryz.f265) .nil) (some Tryz.f137) (.node .nil (some Tryz.f393) .nil)) (some Tryz.f73) (.node (.node .nil (some Tryz.f329) .nil) (some Tryz.f201) (.node .nil (some Tryz.f457) .nil))) (some Tryz.f41) (.node (.node (.node .nil (some Tryz.f297) .nil) (some Tryz.f169) (.node .nil (some Tryz.f425) .nil)) (some Tryz.f105) (.node (.node .nil (some Tryz.f361) .nil) (some Tryz.f233) .nil))) (some Tryz.f25) (.node (.node (.node (.node .nil (some Tryz.f281) .nil) (some Tryz.f153) (.node .nil (some Tryz.f409) .nil)) (some Tryz.f89) (.node (.node .nil (some Tryz.f345) .nil) (some Tryz.f217) .nil)) (some Tryz.f57) (.node (.node (.node .nil (some Tryz.f313) .nil) (some Tryz.f185) (.node .nil (some Tryz.f441) .nil)) (some Tryz.f121) (.node (.node .nil (some Tryz.f377) .nil) (some Tryz.f249) .nil))))) (some Tryz.f5) (.node (.node (.node (.node (.node .nil (some Tryz.f133) .nil) (some Tryz.f69) (.node (.node .nil (some Tryz.f325) .nil) (some Tryz.f197) (.node .nil (some Tryz.f453) .nil))) (some Tryz.f37) (.node (.node (.node .nil (some Tryz.f293) .nil) (some Tryz.f165) .nil) (some Tryz.f101) (.node (.node .nil (some Tryz.f357) .nil) (some Tryz.f229) .nil))) (some Tryz.f21) (.node (.node (.node (.node .nil (some Tryz.f277) .nil) (some Tryz.f149) (.node .nil (some Tryz.f405) .nil)) (some Tryz.f85) (.node (.node .nil (some Tryz.f341) .nil) (some Tryz.f213) (.node .nil (some Tryz.f469) .nil))) (some Tryz.f53) (.node (.node (.node .nil (some Tryz.f309) .nil) (some Tryz.f181) (.node .nil (some Tryz.f437) .nil)) (some Tryz.f117) (.node (.node .nil (some Tryz.f373) .nil) (some Tryz.f245) .nil)))) (some Tryz.f13) (.node (.node (.node (.node (.node .nil (some Tryz.f269) .nil) (some Tryz.f141) (.node .nil (some Tryz.f397) .nil)) (some Tryz.f77) (.node (.node .nil (some Tryz.f333) .nil) (some Tryz.f205) .nil)) (some Tryz.f45) (.node (.node (.node .nil (some Tryz.f301) .nil) (some Tryz.f173) (.node .nil (some Tryz.f429) .nil)) (some Tryz.f109) (.node (.node .nil (some Tryz.f365) .nil) (some Tryz.f237) .nil))) (some Tryz.f29) (.node (.node (.node (.node .nil (some Tryz.f285) .nil) (some Tryz.f157) (.node .nil (some Tryz.f413) .nil)) (some Tryz.f93) (.node (.node .nil (some Tryz.f349) .nil) (some Tryz.f221) .nil)) (some Tryz.f61) (.node (.node (.node .nil (some Tryz.f317) .nil) (some Tryz.f189) (.node .nil (some Tryz.f445) .nil)) (some Tryz.f125) (.node .nil (some Tryz.f253) .nil))))))) none (.node (.node (.node (.node (.node (.node (.node (.node .nil (some Tryz.f256) .nil) (some Tryz.f128) .nil) (some Tryz.f64) (.node (.node .nil (some Tryz.f320) .nil) (some Tryz.f192) (.node .nil (some Tryz.f448) .nil))) (some Tryz.f32) (.node (.node (.node .nil (some Tryz.f288) .nil) (some Tryz.f160) (.node .nil (some Tryz.f416) .nil)) (some Tryz.f96) (.node (.node .nil (some Tryz.f352) .nil) (some Tryz.f224) .nil))) (some Tryz.f16) (.node (.node (.node (.node .nil (some Tryz.f272) .nil) (some Tryz.f144) (.node .nil (some Tryz.f400) .nil)) (some Tryz.f80) (.node (.node .nil (some Tryz.f336) .nil) (some Tryz.f208) .nil)) (some Tryz.f48) (.node (.node (.node .nil (some Tryz.f304) .nil) (some Tryz.f176) .nil) (some Tryz.f112) (.node .nil (some Tryz.f240) .nil)))) (some Tryz.f8) (.node (.node (.node (.node (.node .nil (some Tryz.f264) .nil) (some Tryz.f136) (.node .nil (some Tryz.f392) .nil)) (some Tryz.f72) (.node (.node .nil (some Tryz.f328) .nil) (some Tryz.f200) (.node .nil (some Tryz.f456) .nil))) (some Tryz.f40) (.node (.node (.node .nil (some Tryz.f296) .nil) (some Tryz.f168) (.node .nil (some Tryz.f424) .nil)) (some Tryz.f104) (.node (.node .nil (some Tryz.f360) .nil) (some Tryz.f232) .nil))) (some Tryz.f24) (.node (.node (.node (.node .nil (some Tryz.f280) .nil) (some Tryz.f152) (.node .nil (some Tryz.f408) .nil)) (some Tryz.f88) (.node (.node .nil (some Tryz.f344) .nil) (some Tryz.f216) (.node .nil (some Tryz.f472) .nil))) (some Tryz.f56) (.node (.node (.node .nil (some Tryz.f312) .nil) (some Tryz.f184) (.node .nil (some Tryz.f440) .nil)) (some Tryz.f120) (.node (.node .nil (some Tryz.f376) .nil) (some Tryz.f248) .nil))))) (some Tryz.f4) (.node (.node (.node (.node (.node .nil (some Tryz.f132) .nil) (some Tryz.f68) (.node .nil (some Tryz.f196) (.node .nil (some Tryz.f452) .nil))) (some Tryz.f36) (.node (.node (.node .nil (some Tryz.f292) .nil) (some Tryz.f164) (.node .nil (some Tryz.f420) .nil)) (some Tryz.f100) (.node (.node .nil (some Tryz.f356) .nil) (some Tryz.f228) .nil))) (some Tryz.f20) (.node (.node (.node (.node .nil (some Tryz.f276) .nil) (some Tryz.f148) (.node .nil (some Tryz.f404) .nil)) (some Tryz.f84) (.node (.node .nil (some Tryz.f340) .nil) (some Tryz.f212) (.node .nil (some Tryz.f468) .nil))) (some Tryz.f52) (.node (.node (.node .nil (some Tryz.f308) .nil) (some Tryz.f180) (.node .nil (some Tryz.f436) .nil)) (some Tryz.f116) (.node (.node .nil (some Tryz.f372) .nil) (some Tryz.f244) .nil)))) (some Tryz.f12) (.node (.node (.node (.node (.node .nil (some Tryz.f268) .nil) (some Tryz.f140) (.node .nil (some Tryz.f396) .nil)) (some Tryz.f76) (.node (.node .nil (some Tryz.f332) .nil) (some Tryz.f204) (.node .nil (some Tryz.f460) .nil))) (some Tryz.f44) (.node (.node (.node .nil (some Tryz.f300) .nil) (some Tryz.f172) (.node .nil (some Tryz.f428) .nil)) (some Tryz.f108) (.node (.node .nil (some Tryz.f364) .nil) (some Tryz.f236) .nil))) (some Tryz.f28) (.node (.node (.node (.node .nil (some Tryz.f284) .nil) (some Tryz.f156) (.node .nil (some Tryz.f412) .nil)) (some Tryz.f92) (.node (.node .nil (some Tryz.f348) .nil) (some Tryz.f220) .nil)) (some Tryz.f60) (.node (.node (.node .nil (some Tryz.f316) .nil) (some Tryz.f188) (.node .nil (some Tryz.f444) .nil)) (some Tryz.f124) (.node .nil (some Tryz.f252) .nil)))))) none (.node (.node (.node (.node (.node (.node (.node .nil (some Tryz.f258) .nil) (some Tryz.f130) .nil) (some Tryz.f66) (.node .nil (some Tryz.f194) .nil)) (some Tryz.f34) (.node (.node (.node .nil (some Tryz.f290) .nil) (some Tryz.f162) (.node .nil (some Tryz.f418) .nil)) (some Tryz.f98) (.node (.node .nil (some Tryz.f354) .nil) (some Tryz.f226) .nil))) (some Tryz.f18) (.node (.node (.node (.node .nil (some Tryz.f274) .nil) (some Tryz.f146) (.node .nil (some Tryz.f402) .nil)) (some Tryz.f82) (.node (.node .nil (some Tryz.f338) .nil) (some Tryz.f210) (.node .nil (some Tryz.f466) .nil))) (some Tryz.f50) (.node (.node (.node .nil (some Tryz.f306) .nil) (some Tryz.f178) .nil) (some Tryz.f114) (.node (.node .nil (some Tryz.f370) .nil) (some Tryz.f242) .nil)))) (some Tryz.f10) (.node (.node (.node (.node (.node .nil (some Tryz.f266) .nil) (some Tryz.f138) (.node .nil (some Tryz.f394) .nil)) (some Tryz.f74) (.node (.node .nil (some Tryz.f330) .nil) (some Tryz.f202) (.node .nil (some Tryz.f458) .nil))) (some Tryz.f42) (.node (.node (.node .nil (some Tryz.f298) .nil) (some Tryz.f170) .nil) (some Tryz.f106) (.node (.node .nil (some Tryz.f362) .nil) (some Tryz.f234) .nil))) (some Tryz.f26) (.node (.node (.node (.node .nil (some Tryz.f282) .nil) (some Tryz.f154) (.node .nil (some Tryz.f410) .nil)) (some Tryz.f90) (.node (.node .nil (some Tryz.f346) .nil) (some Tryz.f218) .nil)) (some Tryz.f58) (.node (.node (.node .nil (some Tryz.f314) .nil) (some Tryz.f186) (.node .nil (some Tryz.f442) .nil)) (some Tryz.f122) (.node (.node .nil (some Tryz.f378) .nil) (some Tryz.f250) .nil))))) (some Tryz.f6) (.node (.node (.node (.node (.node (.node .nil (some Tryz.f262) .nil) (some Tryz.f134) .nil) (some Tryz.f70) (.node (.node .nil (some Tryz.f326) .nil) (some Tryz.f198) (.node .nil (some Tryz.f454) .nil))) (some Tryz.f38) (.node (.node (.node .nil (some Tryz.f294) .nil) (some Tryz.f166) .nil) (some Tryz.f102) (.node (.node .nil (some Tryz.f358) .nil) (some Tryz.f230) .nil))) (some Tryz.f22) (.node (.node (.node (.node .nil (some Tryz.f278) .nil) (some Tryz.f150) (.node .nil (some Tryz.f406) .nil)) (some Tryz.f86) (.node (.node .nil (some Tryz.f342) .nil) (some Tryz.f214) (.node .nil (some Tryz.f470) .nil))) (some Tryz.f54) (.node (.node (.node .nil (some Tryz.f310) .nil) (some Tryz.f182) (.node .nil (some Tryz.f438) .nil)) (some Tryz.f118) (.node (.node .nil (some Tryz.f374) .nil) (some Tryz.f246) .nil)))) (some Tryz.f14) (.node (.node (.node (.node (.node .nil (some Tryz.f270) .nil) (some Tryz.f142) (.node .nil (some Tryz.f398) .nil)) (some Tryz.f78) (.node (.node .nil (some Tryz.f334) .nil) (some Tryz.f206) .nil)) (some Tryz.f46) (.node (.node (.node .nil (some Tryz.f302) .nil) (some Tryz.f174) .nil) (some Tryz.f110) (.node (.node .nil (some Tryz.f366) .nil) (some Tryz.f238) .nil))) (some Tryz.f30) (.node (.node (.node (.node .nil (some Tryz.f286) .nil) (some Tryz.f158) (.node .nil (some Tryz.f414) .nil)) (some Tryz.f94) (.node (.node .nil (some Tryz.f350) .nil) (some Tryz.f222) .nil)) (some Tryz.f62) (.node (.node (.node .nil (some Tryz.f318) .nil) (some Tryz.f190) (.node .nil (some Tryz.f446) .nil)) (some Tryz.f126) (.node .nil (some Tryz.f254) .nil))))))))
noncomputable def env (fs : List Fact) : Env := { fn := Tr.get fnTree, ty := Tr.get tyTree, facts := fs, ng := 1 }
noncomputable def EV : Env := env []
/-! ### known functions -/
def repN (l n : Nat) : Nat → Nat := Nat.rec 0 (fun _ acc => n + acc <<< (8 * l))
/-- strings.Repeat -/
def repeatP : List AV → AH → Option (AV × AH)
  | [.str l n, .int .i64 (.ofNat k)], h => bif Nat.ble (l * k) 140737488355328 && Nat.ble k 9223372036854775807 then some (.str (l * k) (repN l n k), h) else none
  | _, _ => none
def findB (n : Nat) (c : Nat) : Nat → Nat → Int
  | 0, _ => -1
  | k + 1, i => bif Nat.beq (byteAt n i) c then .ofNat i else findB n c k (i + 1)
/-- stringslite.IndexByte -/
def indexByteP : List AV → AH → Option (AV × AH)
  | [.str l n, .int .u8 (.ofNat c)], h => bif Nat.blt c 256 then some (.int .i64 (findB n c l 0), h) else none
  | _, _ => none
def insI (n : Int) : List Int → List Int
  | [] => [n]
  | m :: l => bif leI n m then n :: m :: l else m :: insI n l
/-- the keys, all ints of 64 bits -/
def keysI : List (AV × AV × Nat) → Option (List Int)
  | [] => some []
  | (k, _, _) :: es => match k, keysI es with
    | .int .i64 n, some l => bif leI (-9223372036854775808) n && leI n 9223372036854775807 then some (n :: l) else none
    | _, _ => none
/-- made one behind the other -/
def stampB : List (AV × AV × Nat) → Nat → Nat → Bool
  | [], _, _ => true
  | (_, _, b) :: es, lo, clock => Nat.ble lo b && Nat.blt b clock && stampB es (b + 1) clock
def sortI : List Int → List Int
  | [] => []
  | n :: l => insI n (sortI l)
def riseI : List Int → Bool
  | [] => true
  | [_] => true
  | a :: b :: l => ltI a b && riseI (b :: l)
/-- maps.Keys: what goes over the map -/
def keysP : List AV → AH → Option (AV × AH)
  | [.map id], h => some (.func 261 [] [.ptr h.next 0], h.new (.ro 1 (.node .nil (some (.map id)) .nil)))
  | _, _ => none
def intsN (l : List Int) (h : AH) : AV × AH := match l with
  | [] => (.nilSlice, h)
  | k :: l => (.slice h.next 0 (l.length + 1) (l.length + 1) 1 false, h.new (.cells (l.length + 1) false [] (Tr.ofList ((k :: l).map (AV.int .i64)))))
/-- slices.Sorted[int] of that -/
def sortedP : List AV → AH → Option (AV × AH)
  | [.func f [] [.ptr a 0]], h => bif Nat.beq f 261 then match h.get a with
    | .ro 1 (.node _ (some (.map id)) _) => match h.get id with
      | .map es clock => match keysI es with
        | some ks => bif riseI (sortI ks) && stampB es 0 clock && Nat.ble es.length 16777216 then some (intsN (sortI ks) h) else none
        | none => none
      | _ => none
    | _ => none
    else none
  | _, _ => none
def primL : List (FuncId × (List AV → AH → Option (AV × AH))) := [(296, repeatP), (425, indexByteP), (172, sortedP), (173, keysP)]
def PV : Prims := primsOf primL
theorem fn3 : EV.fn 3 = some Tryz.f3 := by kernel_rfl
theorem pv3 : PV 3 = none := by kernel_rfl
theorem fn4 : EV.fn 4 = some Tryz.f4 := by kernel_rfl
theorem pv4 : PV 4 = none := by kernel_rfl
theorem fn5 : EV.fn 5 = some Tryz.f5 := by kernel_rfl
theorem pv5 : PV 5 = none := by kernel_rfl
theorem fn6 : EV.fn 6 = some Tryz.f6 := by kernel_rfl
theorem pv6 : PV 6 = none := by kernel_rfl
theorem fn7 : EV.fn 7 = some Tryz.f7 := by kernel_rfl
theorem pv7 : PV 7 = none := by kernel_rfl
theorem fn8 : EV.fn 8 = some Tryz.f8 := by kernel_rfl
theorem pv8 : PV 8 = none := by kernel_rfl
theorem fn9 : EV.fn 9 = some Tryz.f9 := by kernel_rfl
theorem pv9 : PV 9 = none := by kernel_rfl
theorem fn10 : EV.fn 10 = some Tryz.f10 := by kernel_rfl
theorem pv10 : PV 10 = none := by kernel_rfl
theorem fn11 : EV.fn 11 = some Tryz.f11 := by kernel_rfl
theorem pv11 : PV 11 = none := by kernel_rfl
theorem fn12 : EV.fn 12 = some Tryz.f12 := by kernel_rfl
theorem pv12 : PV 12 = none := by kernel_rfl
theorem fn13 : EV.fn 13 = some Tryz.f13 := by kernel_rfl
theorem pv13 : PV 13 = none := by kernel_rfl
theorem fn14 : EV.fn 14 = some Tryz.f14 := by kernel_rfl
theorem pv14 : PV 14 = none := by kernel_rfl
theorem fn15 : EV.fn 15 = some Tryz.f15 := by kernel_rfl
theorem pv15 : PV 15 = none := by kernel_rfl
theorem fn16 : EV.fn 16 = some Tryz.f16 := by kernel_rfl
theorem pv16 : PV 16 = none := by kernel_rfl
theorem fn17 : EV.fn 17 = some Tryz.f17 := by kernel_rfl
theorem pv17 : PV 17 = none := by kernel_rfl
theorem fn18 : EV.fn 18 = some Tryz.f18 := by kernel_rfl
theorem pv18 : PV 18 = none := by kernel_rfl
theorem fn19 : EV.fn 19 = some Tryz.f19 := by kernel_rfl
theorem pv19 : PV 19 = none := by kernel_rfl
theorem fn20 : EV.fn 20 = some Tryz.f20 := by kernel_rfl
theorem pv20 : PV 20 = none := by kernel_rfl
theorem fn21 : EV.fn 21 = some Tryz.f21 := by kernel_rfl
theorem pv21 : PV 21 = none := by kernel_rfl
theorem fn22 : EV.fn 22 = some Tryz.f22 := by kernel_rfl
theorem pv22 : PV 22 = none := by kernel_rfl
theorem fn23 : EV.fn 23 = some Tryz.f23 := by kernel_rfl
theorem pv23 : PV 23 = none := by kernel_rfl
theorem fn24 : EV.fn 24 = some Tryz.f24 := by kernel_rfl
theorem pv24 : PV 24 = none := by kernel_rfl
theorem fn25 : EV.fn 25 = some Tryz.f25 := by kernel_rfl
theorem pv25 : PV 25 = none := by kernel_rfl
theorem fn26 : EV.fn 26 = some Tryz.f26 := by kernel_rfl
theorem pv26 : PV 26 = none := by kernel_rfl
theorem fn27 : EV.fn 27 = some Tryz.f27 := by kernel_rfl
theorem pv27 : PV 27 = none := by kernel_rfl
theorem fn28 : EV.fn 28 = some Tryz.f28 := by kernel_rfl
theorem pv28 : PV 28 = none := by kernel_rfl
theorem fn29 : EV.fn 29 = some Tryz.f29 := by kernel_rfl
theorem pv29 : PV 29 = none := by kernel_rfl
theorem fn30 : EV.fn 30 = some Tryz.f30 := by kernel_rfl
theorem pv30 : PV 30 = none := by kernel_rfl
theorem fn31 : EV.fn 31 = some Tryz.f31 := by kernel_rfl
theorem pv31 : PV 31 = none := by kernel_rfl
theorem fn32 : EV.fn 32 = some Tryz.f32 := by kernel_rfl
theorem pv32 : PV 32 = none := by kernel_rfl
theorem fn33 : EV.fn 33 = some Tryz.f33 := by kernel_rfl
theorem pv33 : PV 33 = none := by kernel_rfl
theorem fn34 : EV.fn 34 = some Tryz.f34 := by kernel_rfl
theorem pv34 : PV 34 = none := by kernel_rfl
theorem fn35 : EV.fn 35 = some Tryz.f35 := by kernel_rfl
theorem pv35 : PV 35 = none := by kernel_rfl
theorem fn36 : EV.fn 36 = some Tryz.f36 := by kernel_rfl
theorem pv36 : PV 36 = none := by kernel_rfl
theorem fn37 : EV.fn 37 = some Tryz.f37 := by kernel_rfl
theorem pv37 : PV 37 = none := by kernel_rfl
theorem fn38 : EV.fn 38 = some Tryz.f38 := by kernel_rfl
theorem pv38 : PV 38 = none := by kernel_rfl
theorem fn39 : EV.fn 39 = some Tryz.f39 := by kernel_rfl
theorem pv39 : PV 39 = none := by kernel_rfl
theorem fn40 : EV.fn 40 = some Tryz.f40 := by kernel_rfl
theorem pv40 : PV 40 = none := by kernel_rfl
theorem fn41 : EV.fn 41 = some Tryz.f41 := by kernel_rfl
theorem pv41 : PV 41 = none := by kernel_rfl
theorem fn42 : EV.fn 42 = some Tryz.f42 := by kernel_rfl
theorem pv42 : PV 42 = none := by kernel_rfl
theorem fn43 : EV.fn 43 = some Tryz.f43 := by kernel_rfl
theorem pv43 : PV 43 = none := by kernel_rfl
theorem fn44 : EV.fn 44 = some Tryz.f44 := by kernel_rfl
theorem pv44 : PV 44 = none := by kernel_rfl
theorem fn45 : EV.fn 45 = some Tryz.f45 := by kernel_rfl
theorem pv45 : PV 45 = none := by kernel_rfl
theorem fn46 : EV.fn 46 = some Tryz.f46 := by kernel_rfl
theorem pv46 : PV 46 = none := by kernel_rfl
theorem fn47 : EV.fn 47 = some Tryz.f47 := by kernel_rfl
theorem pv47 : PV 47 = none := by kernel_rfl
theorem fn48 : EV.fn 48 = some Tryz.f48 := by kernel_rfl
theorem pv48 : PV 48 = none := by kernel_rfl
theorem fn49 : EV.fn 49 = some Tryz.f49 := by kernel_rfl
theorem pv49 : PV 49 = none := by kernel_rfl
theorem fn50 : EV.fn 50 = some Tryz.f50 := by kernel_rfl
theorem pv50 : PV 50 = none := by kernel_rfl
theorem fn51 : EV.fn 51 = some Tryz.f51 := by kernel_rfl
theorem pv51 : PV 51 = none := by kernel_rfl
theorem fn52 : EV.fn 52 = some Tryz.f52 := by kernel_rfl
theorem pv52 : PV 52 = none := by kernel_rfl
theorem fn53 : EV.fn 53 = some Tryz.f53 := by kernel_rfl
theorem pv53 : PV 53 = none := by kernel_rfl
theorem fn54 : EV.fn 54 = some Tryz.f54 := by kernel_rfl
theorem pv54 : PV 54 = none := by kernel_rfl
theorem fn55 : EV.fn 55 = some Tryz.f55 := by kernel_rfl
theorem pv55 : PV 55 = none := by kernel_rfl
theorem fn56 : EV.fn 56 = some Tryz.f56 := by kernel_rfl
theorem pv56 : PV 56 = none := by kernel_rfl
theorem fn57 : EV.fn 57 = some Tryz.f57 := by kernel_rfl
theorem pv57 : PV 57 = none := by kernel_rfl
theorem fn58 : EV.fn 58 = some Tryz.f58 := by kernel_rfl
theorem pv58 : PV 58 = none := by kernel_rfl
theorem fn59 : EV.fn 59 = some Tryz.f59 := by kernel_rfl
theorem pv59 : PV 59 = none := by kernel_rfl
theorem fn60 : EV.fn 60 = some Tryz.f60 := by kernel_rfl
theorem pv60 : PV 60 = none := by kernel_rfl
theorem fn61 : EV.fn 61 = some Tryz.f61 := by kernel_rfl
theorem pv61 : PV 61 = none := by kernel_rfl
theorem fn62 : EV.fn 62 = some Tryz.f62 := by kernel_rfl
theorem pv62 : PV 62 = none := by kernel_rfl
theorem fn63 : EV.fn 63 = some Tryz.f63 := by kernel_rfl
theorem pv63 : PV 63 = none := by kernel_rfl
theorem fn64 : EV.fn 64 = some Tryz.f64 := by kernel_rfl
theorem pv64 : PV 64 = none := by kernel_rfl
theorem fn65 : EV.fn 65 = some Tryz.f65 := by kernel_rfl
theorem pv65 : PV 65 = none := by kernel_rfl
theorem fn66 : EV.fn 66 = some Tryz.f66 := by kernel_rfl
theorem pv66 : PV 66 = none := by kernel_rfl
theorem fn67 : EV.fn 67 = some Tryz.f67 := by kernel_rfl
theorem pv67 : PV 67 = none := by kernel_rfl
theorem fn68 : EV.fn 68 = some Tryz.f68 := by kernel_rfl
theorem pv68 : PV 68 = none := by kernel_rfl
theorem fn69 : EV.fn 69 = some Tryz.f69 := by kernel_rfl
theorem pv69 : PV 69 = none := by kernel_rfl
theorem fn70 : EV.fn 70 = some Tryz.f70 := by kernel_rfl
theorem pv70 : PV 70 = none := by kernel_rfl
theorem fn71 : EV.fn 71 = some Tryz.f71 := by kernel_rfl
theorem pv71 : PV 71 = none := by kernel_rfl
theorem fn72 : EV.fn 72 = some Tryz.f72 := by kernel_rfl
theorem pv72 : PV 72 = none := by kernel_rfl
theorem fn73 : EV.fn 73 = some Tryz.f73 := by kernel_rfl
theorem pv73 : PV 73 = none := by kernel_rfl
theorem fn74 : EV.fn 74 = some Tryz.f74 := by kernel_rfl
theorem pv74 : PV 74 = none := by kernel_rfl
theorem fn75 : EV.fn 75 = some Tryz.f75 := by kernel_rfl
theorem pv75 : PV 75 = none := by kernel_rfl
theorem fn76 : EV.fn 76 = some Tryz.f76 := by kernel_rfl
theorem pv76 : PV 76 = none := by kernel_rfl
theorem fn77 : EV.fn 77 = some Tryz.f77 := by kernel_rfl
theorem pv77 : PV 77 = none := by kernel_rfl
theorem fn78 : EV.fn 78 = some Tryz.f78 := by kernel_rfl
theorem pv78 : PV 78 = none := by kernel_rfl
theorem fn79 : EV.fn 79 = some Tryz.f79 := by kernel_rfl
theorem pv79 : PV 79 = none := by kernel_rfl
theorem fn80 : EV.fn 80 = some Tryz.f80 := by kernel_rfl
theorem pv80 : PV 80 = none := by kernel_rfl
theorem fn81 : EV.fn 81 = some Tryz.f81 := by kernel_rfl
theorem pv81 : PV 81 = none := by kernel_rfl
theorem fn82 : EV.fn 82 = some Tryz.f82 := by kernel_rfl
theorem pv82 : PV 82 = none := by kernel_rfl
theorem fn83 : EV.fn 83 = some Tryz.f83 := by kernel_rfl
theorem pv83 : PV 83 = none := by kernel_rfl
theorem fn84 : EV.fn 84 = some Tryz.f84 := by kernel_rfl
theorem pv84 : PV 84 = none := by kernel_rfl
theorem fn85 : EV.fn 85 = some Tryz.f85 := by kernel_rfl
theorem pv85 : PV 85 = none := by kernel_rfl
theorem fn86 : EV.fn 86 = some Tryz.f86 := by kernel_rfl
theorem pv86 : PV 86 = none := by kernel_rfl
theorem fn87 : EV.fn 87 = some Tryz.f87 := by kernel_rfl
theorem pv87 : PV 87 = none := by kernel_rfl
theorem fn88 : EV.fn 88 = some Tryz.f88 := by kernel_rfl
theorem pv88 : PV 88 = none := by kernel_rfl
theorem fn89 : EV.fn 89 = some Tryz.f89 := by kernel_rfl
theorem pv89 : PV 89 = none := by kernel_rfl
theorem fn90 : EV.fn 90 = some Tryz.f90 := by kernel_rfl
theorem pv90 : PV 90 = none := by kernel_rfl
theorem fn91 : EV.fn 91 = some Tryz.f91 := by kernel_rfl
theorem pv91 : PV 91 = none := by kernel_rfl
theorem fn92 : EV.fn 92 = some Tryz.f92 := by kernel_rfl
theorem pv92 : PV 92 = none := by kernel_rfl
theorem fn93 : EV.fn 93 = some Tryz.f93 := by kernel_rfl
theorem pv93 : PV 93 = none := by kernel_rfl
theorem fn94 : EV.fn 94 = some Tryz.f94 := by kernel_rfl
theorem pv94 : PV 94 = none := by kernel_rfl
theorem fn95 : EV.fn 95 = some Tryz.f95 := by kernel_rfl
theorem pv95 : PV 95 = none := by kernel_rfl
theorem fn96 : EV.fn 96 = some Tryz.f96 := by kernel_rfl
theorem pv96 : PV 96 = none := by kernel_rfl
theorem fn97 : EV.fn 97 = some Tryz.f97 := by kernel_rfl
theorem pv97 : PV 97 = none := by kernel_rfl
theorem fn98 : EV.fn 98 = some Tryz.f98 := by kernel_rfl
theorem pv98 : PV 98 = none := by kernel_rfl
theorem fn99 : EV.fn 99 = some Tryz.f99 := by kernel_rfl
theorem pv99 : PV 99 = none := by kernel_rfl
theorem fn100 : EV.fn 100 = some Tryz.f100 := by kernel_rfl
theorem pv100 : PV 100 = none := by kernel_rfl
theorem fn101 : EV.fn 101 = some Tryz.f101 := by kernel_rfl
theorem pv101 : PV 101 = none := by kernel_rfl
theorem fn102 : EV.fn 102 = some Tryz.f102 := by kernel_rfl
theorem pv102 : PV 102 = none := by kernel_rfl
theorem fn103 : EV.fn 103 = some Tryz.f103 := by kernel_rfl
theorem pv103 : PV 103 = none := by kernel_rfl
theorem fn104 : EV.fn 104 = some Tryz.f104 := by kernel_rfl
theorem pv104 : PV 104 = none := by kernel_rfl
theorem fn105 : EV.fn 105 = some Tryz.f105 := by kernel_rfl
theorem pv105 : PV 105 = none := by kernel_rfl
theorem fn106 : EV.fn 106 = some Tryz.f106 := by kernel_rfl
theorem pv106 : PV 106 = none := by kernel_rfl
theorem fn107 : EV.fn 107 = some Tryz.f107 := by kernel_rfl
theorem pv107 : PV 107 = none := by kernel_rfl
theorem fn108 : EV.fn 108 = some Tryz.f108 := by kernel_rfl
theorem pv108 : PV 108 = none := by kernel_rfl
theorem fn109 : EV.fn 109 = some Tryz.f109 := by kernel_rfl
theorem pv109 : PV 109 = none := by kernel_rfl
theorem fn110 : EV.fn 110 = some Tryz.f110 := by kernel_rfl
theorem pv110 : PV 110 = none := by kernel_rfl
theorem fn111 : EV.fn 111 = some Tryz.f111 := by kernel_rfl
theorem pv111 : PV 111 = none := by kernel_rfl
theorem fn112 : EV.fn 112 = some Tryz.f112 := by kernel_rfl
theorem pv112 : PV 112 = none := by kernel_rfl
theorem fn113 : EV.fn 113 = some Tryz.f113 := by kernel_rfl
theorem pv113 : PV 113 = none := by kernel_rfl
theorem fn114 : EV.fn 114 = some Tryz.f114 := by kernel_rfl
theorem pv114 : PV 114 = none := by kernel_rfl
theorem fn115 : EV.fn 115 = some Tryz.f115 := by kernel_rfl
theorem pv115 : PV 115 = none := by kernel_rfl
theorem fn116 : EV.fn 116 = some Tryz.f116 := by kernel_rfl
theorem pv116 : PV 116 = none := by kernel_rfl
theorem fn117 : EV.fn 117 = some Tryz.f117 := by kernel_rfl
theorem pv117 : PV 117 = none := by kernel_rfl
theorem fn118 : EV.fn 118 = some Tryz.f118 := by kernel_rfl
theorem pv118 : PV 118 = none := by kernel_rfl
theorem fn119 : EV.fn 119 = some Tryz.f119 := by kernel_rfl
theorem pv119 : PV 119 = none := by kernel_rfl
theorem fn120 : EV.fn 120 = some Tryz.f120 := by kernel_rfl
theorem pv120 : PV 120 = none := by kernel_rfl
theorem fn121 : EV.fn 121 = some Tryz.f121 := by kernel_rfl
theorem pv121 : PV 121 = none := by kernel_rfl
theorem fn122 : EV.fn 122 = some Tryz.f122 := by kernel_rfl
theorem pv122 : PV 122 = none := by kernel_rfl
theorem fn123 : EV.fn 123 = some Tryz.f123 := by kernel_rfl
theorem pv123 : PV 123 = none := by kernel_rfl
theorem fn124 : EV.fn 124 = some Tryz.f124 := by kernel_rfl
theorem pv124 : PV 124 = none := by kernel_rfl
theorem fn125 : EV.fn 125 = some Tryz.f125 := by kernel_rfl
theorem pv125 : PV 125 = none := by kernel_rfl
theorem fn126 : EV.fn 126 = some Tryz.f126 := by kernel_rfl
theorem pv126 : PV 126 = none := by kernel_rfl
theorem fn127 : EV.fn 127 = some Tryz.f127 := by kernel_rfl
theorem pv127 : PV 127 = none := by kernel_rfl
theorem fn128 : EV.fn 128 = some Tryz.f128 := by kernel_rfl
theorem pv128 : PV 128 = none := by kernel_rfl
theorem fn129 : EV.fn 129 = some Tryz.f129 := by kernel_rfl
theorem pv129 : PV 129 = none := by kernel_rfl
theorem fn130 : EV.fn 130 = some Tryz.f130 := by kernel_rfl
theorem pv130 : PV 130 = none := by kernel_rfl
theorem fn131 : EV.fn 131 = some Tryz.f131 := by kernel_rfl
theorem pv131 : PV 131 = none := by kernel_rfl
theorem fn132 : EV.fn 132 = some Tryz.f132 := by kernel_rfl
theorem pv132 : PV 132 = none := by kernel_rfl
theorem fn133 : EV.fn 133 = some Tryz.f133 := by kernel_rfl
theorem pv133 : PV 133 = none := by kernel_rfl
theorem fn134 : EV.fn 134 = some Tryz.f134 := by kernel_rfl
theorem pv134 : PV 134 = none := by kernel_rfl
theorem fn135 : EV.fn 135 = some Tryz.f135 := by kernel_rfl
theorem pv135 : PV 135 = none := by kernel_rfl
theorem fn136 : EV.fn 136 = some Tryz.f136 := by kernel_rfl
theorem pv136 : PV 136 = none := by kernel_rfl
theorem fn137 : EV.fn 137 = some Tryz.f137 := by kernel_rfl
theorem pv137 : PV 137 = none := by kernel_rfl
theorem fn138 : EV.fn 138 = some Tryz.f138 := by kernel_rfl
theorem pv138 : PV 138 = none := by kernel_rfl
theorem fn139 : EV.fn 139 = some Tryz.f139 := by kernel_rfl
theorem pv139 : PV 139 = none := by kernel_rfl
theorem fn140 : EV.fn 140 = some Tryz.f140 := by kernel_rfl
theorem pv140 : PV 140 = none := by kernel_rfl
theorem fn141 : EV.fn 141 = some Tryz.f141 := by kernel_rfl
theorem pv141 : PV 141 = none := by kernel_rfl
theorem fn142 : EV.fn 142 = some Tryz.f142 := by kernel_rfl
theorem pv142 : PV 142 = none := by kernel_rfl
theorem fn143 : EV.fn 143 = some Tryz.f143 := by kernel_rfl
theorem pv143 : PV 143 = none := by kernel_rfl
theorem fn144 : EV.fn 144 = some Tryz.f144 := by kernel_rfl
theorem pv144 : PV 144 = none := by kernel_rfl
theorem fn145 : EV.fn 145 = some Tryz.f145 := by kernel_rfl
theorem pv145 : PV 145 = none := by kernel_rfl
theorem fn146 : EV.fn 146 = some Tryz.f146 := by kernel_rfl
theorem pv146 : PV 146 = none := by kernel_rfl
theorem fn147 : EV.fn 147 = some Tryz.f147 := by kernel_rfl
theorem pv147 : PV 147 = none := by kernel_rfl
theorem fn148 : EV.fn 148 = some Tryz.f148 := by kernel_rfl
theorem pv148 : PV 148 = none := by kernel_rfl
theorem fn149 : EV.fn 149 = some Tryz.f149 := by kernel_rfl
theorem pv149 : PV 149 = none := by kernel_rfl
theorem fn150 : EV.fn 150 = some Tryz.f150 := by kernel_rfl
theorem pv150 : PV 150 = none := by kernel_rfl
theorem fn151 : EV.fn 151 = some Tryz.f151 := by kernel_rfl
theorem pv151 : PV 151 = none := by kernel_rfl
theorem fn152 : EV.fn 152 = some Tryz.f152 := by kernel_rfl
theorem pv152 : PV 152 = none := by kernel_rfl
theorem fn153 : EV.fn 153 = some Tryz.f153 := by kernel_rfl
theorem pv153 : PV 153 = none := by kernel_rfl
theorem fn154 : EV.fn 154 = some Tryz.f154 := by kernel_rfl
theorem pv154 : PV 154 = none := by kernel_rfl
theorem fn155 : EV.fn 155 = some Tryz.f155 := by kernel_rfl
theorem pv155 : PV 155 = none := by kernel_rfl
theorem fn156 : EV.fn 156 = some Tryz.f156 := by kernel_rfl
theorem pv156 : PV 156 = none := by kernel_rfl
theorem fn157 : EV.fn 157 = some Tryz.f157 := by kernel_rfl
theorem pv157 : PV 157 = none := by kernel_rfl
theorem fn158 : EV.fn 158 = some Tryz.f158 := by kernel_rfl
theorem pv158 : PV 158 = none := by kernel_rfl
theorem fn159 : EV.fn 159 = some Tryz.f159 := by kernel_rfl
theorem pv159 : PV 159 = none := by kernel_rfl
theorem fn160 : EV.fn 160 = some Tryz.f160 := by kernel_rfl
theorem pv160 : PV 160 = none := by kernel_rfl
theorem fn161 : EV.fn 161 = some Tryz.f161 := by kernel_rfl
theorem pv161 : PV 161 = none := by kernel_rfl
theorem fn162 : EV.fn 162 = some Tryz.f162 := by kernel_rfl
theorem pv162 : PV 162 = none := by kernel_rfl
theorem fn163 : EV.fn 163 = some Tryz.f163 := by kernel_rfl
theorem pv163 : PV 163 = none := by kernel_rfl
theorem fn164 : EV.fn 164 = some Tryz.f164 := by kernel_rfl
theorem pv164 : PV 164 = none := by kernel_rfl
theorem fn165 : EV.fn 165 = some Tryz.f165 := by kernel_rfl
theorem pv165 : PV 165 = none := by kernel_rfl
theorem fn166 : EV.fn 166 = some Tryz.f166 := by kernel_rfl
theorem pv166 : PV 166 = none := by kernel_rfl
theorem fn167 : EV.fn 167 = some Tryz.f167 := by kernel_rfl
theorem pv167 : PV 167 = none := by kernel_rfl
theorem fn168 : EV.fn 168 = some Tryz.f168 := by kernel_rfl
theorem pv168 : PV 168 = none := by kernel_rfl
theorem fn169 : EV.fn 169 = some Tryz.f169 := by kernel_rfl
theorem pv169 : PV 169 = none := by kernel_rfl
theorem fn170 : EV.fn 170 = some Tryz.f170 := by kernel_rfl
theorem pv170 : PV 170 = none := by kernel_rfl
theorem fn171 : EV.fn 171 = some Tryz.f171 := by kernel_rfl
theorem pv171 : PV 171 = none := by kernel_rfl
theorem fn174 : EV.fn 174 = some Tryz.f174 := by kernel_rfl
theorem pv174 : PV 174 = none := by kernel_rfl
theorem fn175 : EV.fn 175 = some Tryz.f175 := by kernel_rfl
theorem pv175 : PV 175 = none := by kernel_rfl
theorem fn176 : EV.fn 176 = some Tryz.f176 := by kernel_rfl
theorem pv176 : PV 176 = none := by kernel_rfl
theorem fn177 : EV.fn 177 = some Tryz.f177 := by kernel_rfl
theorem pv177 : PV 177 = none := by kernel_rfl
theorem fn178 : EV.fn 178 = some Tryz.f178 := by kernel_rfl
theorem pv178 : PV 178 = none := by kernel_rfl
theorem fn179 : EV.fn 179 = some Tryz.f179 := by kernel_rfl
theorem pv179 : PV 179 = none := by kernel_rfl
theorem fn180 : EV.fn 180 = some Tryz.f180 := by kernel_rfl
theorem pv180 : PV 180 = none := by kernel_rfl
theorem fn181 : EV.fn 181 = some Tryz.f181 := by kernel_rfl
theorem pv181 : PV 181 = none := by kernel_rfl
theorem fn182 : EV.fn 182 = some Tryz.f182 := by kernel_rfl
theorem pv182 : PV 182 = none := by kernel_rfl
theorem fn183 : EV.fn 183 = some Tryz.f183 := by kernel_rfl
theorem pv183 : PV 183 = none := by kernel_rfl
theorem fn184 : EV.fn 184 = some Tryz.f184 := by kernel_rfl
theorem pv184 : PV 184 = none := by kernel_rfl
theorem fn185 : EV.fn 185 = some Tryz.f185 := by kernel_rfl
theorem pv185 : PV 185 = none := by kernel_rfl
theorem fn186 : EV.fn 186 = some Tryz.f186 := by kernel_rfl
theorem pv186 : PV 186 = none := by kernel_rfl
theorem fn187 : EV.fn 187 = some Tryz.f187 := by kernel_rfl
theorem pv187 : PV 187 = none := by kernel_rfl
theorem fn188 : EV.fn 188 = some Tryz.f188 := by kernel_rfl
theorem pv188 : PV 188 = none := by kernel_rfl
theorem fn189 : EV.fn 189 = some Tryz.f189 := by kernel_rfl
theorem pv189 : PV 189 = none := by kernel_rfl
theorem fn190 : EV.fn 190 = some Tryz.f190 := by kernel_rfl
theorem pv190 : PV 190 = none := by kernel_rfl
theorem fn191 : EV.fn 191 = some Tryz.f191 := by kernel_rfl
theorem pv191 : PV 191 = none := by kernel_rfl
theorem fn192 : EV.fn 192 = some Tryz.f192 := by kernel_rfl
theorem pv192 : PV 192 = none := by kernel_rfl
theorem fn193 : EV.fn 193 = some Tryz.f193 := by kernel_rfl
theorem pv193 : PV 193 = none := by kernel_rfl
theorem fn194 : EV.fn 194 = some Tryz.f194 := by kernel_rfl
theorem pv194 : PV 194 = none := by kernel_rfl
theorem fn195 : EV.fn 195 = some Tryz.f195 := by kernel_rfl
theorem pv195 : PV 195 = none := by kernel_rfl
theorem fn196 : EV.fn 196 = some Tryz.f196 := by kernel_rfl
theorem pv196 : PV 196 = none := by kernel_rfl
theorem fn197 : EV.fn 197 = some Tryz.f197 := by kernel_rfl
theorem pv197 : PV 197 = none := by kernel_rfl
theorem fn198 : EV.fn 198 = some Tryz.f198 := by kernel_rfl
theorem pv198 : PV 198 = none := by kernel_rfl
theorem fn199 : EV.fn 199 = some Tryz.f199 := by kernel_rfl
theorem pv199 : PV 199 = none := by kernel_rfl
theorem fn200 : EV.fn 200 = some Tryz.f200 := by kernel_rfl
theorem pv200 : PV 200 = none := by kernel_rfl
theorem fn201 : EV.fn 201 = some Tryz.f201 := by kernel_rfl
theorem pv201 : PV 201 = none := by kernel_rfl
theorem fn202 : EV.fn 202 = some Tryz.f202 := by kernel_rfl
theorem pv202 : PV 202 = none := by kernel_rfl
theorem fn203 : EV.fn 203 = some Tryz.f203 := by kernel_rfl
theorem pv203 : PV 203 = none := by kernel_rfl
theorem fn204 : EV.fn 204 = some Tryz.f204 := by kernel_rfl
theorem pv204 : PV 204 = none := by kernel_rfl
theorem fn205 : EV.fn 205 = some Tryz.f205 := by kernel_rfl
theorem pv205 : PV 205 = none := by kernel_rfl
theorem fn206 : EV.fn 206 = some Tryz.f206 := by kernel_rfl
theorem pv206 : PV 206 = none := by kernel_rfl
theorem fn207 : EV.fn 207 = some Tryz.f207 := by kernel_rfl
theorem pv207 : PV 207 = none := by kernel_rfl
theorem fn208 : EV.fn 208 = some Tryz.f208 := by kernel_rfl
theorem pv208 : PV 208 = none := by kernel_rfl
theorem fn209 : EV.fn 209 = some Tryz.f209 := by kernel_rfl
theorem pv209 : PV 209 = none := by kernel_rfl
theorem fn210 : EV.fn 210 = some Tryz.f210 := by kernel_rfl
theorem pv210 : PV 210 = none := by kernel_rfl
theorem fn211 : EV.fn 211 = some Tryz.f211 := by kernel_rfl
theorem pv211 : PV 211 = none := by kernel_rfl
theorem fn212 : EV.fn 212 = some Tryz.f212 := by kernel_rfl
theorem pv212 : PV 212 = none := by kernel_rfl
theorem fn213 : EV.fn 213 = some Tryz.f213 := by kernel_rfl
theorem pv213 : PV 213 = none := by kernel_rfl
theorem fn214 : EV.fn 214 = some Tryz.f214 := by kernel_rfl
theorem pv214 : PV 214 = none := by kernel_rfl
theorem fn215 : EV.fn 215 = some Tryz.f215 := by kernel_rfl
theorem pv215 : PV 215 = none := by kernel_rfl
theorem fn216 : EV.fn 216 = some Tryz.f216 := by kernel_rfl
theorem pv216 : PV 216 = none := by kernel_rfl
theorem fn217 : EV.fn 217 = some Tryz.f217 := by kernel_rfl
theorem pv217 : PV 217 = none := by kernel_rfl
theorem fn218 : EV.fn 218 = some Tryz.f218 := by kernel_rfl
theorem pv218 : PV 218 = none := by kernel_rfl
theorem fn219 : EV.fn 219 = some Tryz.f219 := by kernel_rfl
theorem pv219 : PV 219 = none := by kernel_rfl
theorem fn220 : EV.fn 220 = some Tryz.f220 := by kernel_rfl
theorem pv220 : PV 220 = none := by kernel_rfl
theorem fn221 : EV.fn 221 = some Tryz.f221 := by kernel_rfl
theorem pv221 : PV 221 = none := by kernel_rfl
theorem fn222 : EV.fn 222 = some Tryz.f222 := by kernel_rfl
theorem pv222 : PV 222 = none := by kernel_rfl
theorem fn223 : EV.fn 223 = some Tryz.f223 := by kernel_rfl
theorem pv223 : PV 223 = none := by kernel_rfl
theorem fn224 : EV.fn 224 = some Tryz.f224 := by kernel_rfl
theorem pv224 : PV 224 = none := by kernel_rfl
theorem fn225 : EV.fn 225 = some Tryz.f225 := by kernel_rfl
theorem pv225 : PV 225 = none := by kernel_rfl
theorem fn226 : EV.fn 226 = some Tryz.f226 := by kernel_rfl
theorem pv226 : PV 226 = none := by kernel_rfl
theorem fn227 : EV.fn 227 = some Tryz.f227 := by kernel_rfl
theorem pv227 : PV 227 = none := by kernel_rfl
theorem fn228 : EV.fn 228 = some Tryz.f228 := by kernel_rfl
theorem pv228 : PV 228 = none := by kernel_rfl
theorem fn229 : EV.fn 229 = some Tryz.f229 := by kernel_rfl
theorem pv229 : PV 229 = none := by kernel_rfl
theorem fn230 : EV.fn 230 = some Tryz.f230 := by kernel_rfl
theorem pv230 : PV 230 = none := by kernel_rfl
theorem fn231 : EV.fn 231 = some Tryz.f231 := by kernel_rfl
theorem pv231 : PV 231 = none := by kernel_rfl
theorem fn232 : EV.fn 232 = some Tryz.f232 := by kernel_rfl
theorem pv232 : PV 232 = none := by kernel_rfl
theorem fn233 : EV.fn 233 = some Tryz.f233 := by kernel_rfl
theorem pv233 : PV 233 = none := by kernel_rfl
theorem fn234 : EV.fn 234 = some Tryz.f234 := by kernel_rfl
theorem pv234 : PV 234 = none := by kernel_rfl
theorem fn235 : EV.fn 235 = some Tryz.f235 := by kernel_rfl
theorem pv235 : PV 235 = none := by kernel_rfl
theorem fn236 : EV.fn 236 = some Tryz.f236 := by kernel_rfl
theorem pv236 : PV 236 = none := by kernel_rfl
theorem fn237 : EV.fn 237 = some Tryz.f237 := by kernel_rfl
theorem pv237 : PV 237 = none := by kernel_rfl
theorem fn238 : EV.fn 238 = some Tryz.f238 := by kernel_rfl
theorem pv238 : PV 238 = none := by kernel_rfl
theorem fn239 : EV.fn 239 = some Tryz.f239 := by kernel_rfl
theorem pv239 : PV 239 = none := by kernel_rfl
theorem fn240 : EV.fn 240 = some Tryz.f240 := by kernel_rfl
theorem pv240 : PV 240 = none := by kernel_rfl
theorem fn241 : EV.fn 241 = some Tryz.f241 := by kernel_rfl
theorem pv241 : PV 241 = none := by kernel_rfl
theorem fn242 : EV.fn 242 = some Tryz.f242 := by kernel_rfl
theorem pv242 : PV 242 = none := by kernel_rfl
theorem fn243 : EV.fn 243 = some Tryz.f243 := by kernel_rfl
theorem pv243 : PV 243 = none := by kernel_rfl
theorem fn244 : EV.fn 244 = some Tryz.f244 := by kernel_rfl
theorem pv244 : PV 244 = none := by kernel_rfl
theorem fn245 : EV.fn 245 = some Tryz.f245 := by kernel_rfl
theorem pv245 : PV 245 = none := by kernel_rfl
theorem fn246 : EV.fn 246 = some Tryz.f246 := by kernel_rfl
theorem pv246 : PV 246 = none := by kernel_rfl
theorem fn247 : EV.fn 247 = some Tryz.f247 := by kernel_rfl
theorem pv247 : PV 247 = none := by kernel_rfl
theorem fn248 : EV.fn 248 = some Tryz.f248 := by kernel_rfl
theorem pv248 : PV 248 = none := by kernel_rfl
theorem fn249 : EV.fn 249 = some Tryz.f249 := by kernel_rfl
theorem pv249 : PV 249 = none := by kernel_rfl
theorem fn250 : EV.fn 250 = some Tryz.f250 := by kernel_rfl
theorem pv250 : PV 250 = none := by kernel_rfl
theorem fn251 : EV.fn 251 = some Tryz.f251 := by kernel_rfl
theorem pv251 : PV 251 = none := by kernel_rfl
theorem fn252 : EV.fn 252 = some Tryz.f252 := by kernel_rfl
theorem pv252 : PV 252 = none := by kernel_rfl
theorem fn253 : EV.fn 253 = some Tryz.f253 := by kernel_rfl
theorem pv253 : PV 253 = none := by kernel_rfl
theorem fn254 : EV.fn 254 = some Tryz.f254 := by kernel_rfl
theorem pv254 : PV 254 = none := by kernel_rfl
theorem fn255 : EV.fn 255 = some Tryz.f255 := by kernel_rfl
theorem pv255 : PV 255 = none := by kernel_rfl
theorem fn256 : EV.fn 256 = some Tryz.f256 := by kernel_rfl
theorem pv256 : PV 256 = none := by kernel_rfl
theorem fn257 : EV.fn 257 = some Tryz.f257 := by kernel_rfl
theorem pv257 : PV 257 = none := by kernel_rfl
theorem fn258 : EV.fn 258 = some Tryz.f258 := by kernel_rfl
theorem pv258 : PV 258 = none := by kernel_rfl
theorem fn262 : EV.fn 262 = some Tryz.f262 := by kernel_rfl
theorem pv262 : PV 262 = none := by kernel_rfl
theorem fn263 : EV.fn 263 = some Tryz.f263 := by kernel_rfl
theorem pv263 : PV 263 = none := by kernel_rfl
theorem fn264 : EV.fn 264 = some Tryz.f264 := by kernel_rfl
theorem pv264 : PV 264 = none := by kernel_rfl
theorem fn265 : EV.fn 265 = some Tryz.f265 := by kernel_rfl
theorem pv265 : PV 265 = none := by kernel_rfl
theorem fn266 : EV.fn 266 = some Tryz.f266 := by kernel_rfl
theorem pv266 : PV 266 = none := by kernel_rfl
theorem fn267 : EV.fn 267 = some Tryz.f267 := by kernel_rfl
theorem pv267 : PV 267 = none := by kernel_rfl
theorem fn268 : EV.fn 268 = some Tryz.f268 := by kernel_rfl
theorem pv268 : PV 268 = none := by kernel_rfl
theorem fn269 : EV.fn 269 = some Tryz.f269 := by kernel_rfl
theorem pv269 : PV 269 = none := by kernel_rfl
theorem fn270 : EV.fn 270 = some Tryz.f270 := by kernel_rfl
theorem pv270 : PV 270 = none := by kernel_rfl
theorem fn271 : EV.fn 271 = some Tryz.f271 := by kernel_rfl
theorem pv271 : PV 271 = none := by kernel_rfl
theorem fn272 : EV.fn 272 = some Tryz.f272 := by kernel_rfl
theorem pv272 : PV 272 = none := by kernel_rfl
theorem fn273 : EV.fn 273 = some Tryz.f273 := by kernel_rfl
theorem pv273 : PV 273 = none := by kernel_rfl
theorem fn274 : EV.fn 274 = some Tryz.f274 := by kernel_rfl
theorem pv274 : PV 274 = none := by kernel_rfl
theorem fn275 : EV.fn 275 = some Tryz.f275 := by kernel_rfl
theorem pv275 : PV 275 = none := by kernel_rfl
theorem fn276 : EV.fn 276 = some Tryz.f276 := by kernel_rfl
theorem pv276 : PV 276 = none := by kernel_rfl
theorem fn277 : EV.fn 277 = some Tryz.f277 := by kernel_rfl
theorem pv277 : PV 277 = none := by kernel_rfl
theorem fn278 : EV.fn 278 = some Tryz.f278 := by kernel_rfl
theorem pv278 : PV 278 = none := by kernel_rfl
theorem fn279 : EV.fn 279 = some Tryz.f279 := by kernel_rfl
theorem pv279 : PV 279 = none := by kernel_rfl
theorem fn280 : EV.fn 280 = some Tryz.f280 := by kernel_rfl
theorem pv280 : PV 280 = none := by kernel_rfl
theorem fn281 : EV.fn 281 = some Tryz.f281 := by kernel_rfl
theorem pv281 : PV 281 = none := by kernel_rfl
theorem fn282 : EV.fn 282 = some Tryz.f282 := by kernel_rfl
theorem pv282 : PV 282 = none := by kernel_rfl
theorem fn283 : EV.fn 283 = some Tryz.f283 := by kernel_rfl
theorem pv283 : PV 283 = none := by kernel_rfl
theorem fn284 : EV.fn 284 = some Tryz.f284 := by kernel_rfl
theorem pv284 : PV 284 = none := by kernel_rfl
theorem fn285 : EV.fn 285 = some Tryz.f285 := by kernel_rfl
theorem pv285 : PV 285 = none := by kernel_rfl
theorem fn286 : EV.fn 286 = some Tryz.f286 := by kernel_rfl
theorem pv286 : PV 286 = none := by kernel_rfl
theorem fn287 : EV.fn 287 = some Tryz.f287 := by kernel_rfl
theorem pv287 : PV 287 = none := by kernel_rfl
theorem fn288 : EV.fn 288 = some Tryz.f288 := by kernel_rfl
theorem pv288 : PV 288 = none := by kernel_rfl
theorem fn289 : EV.fn 289 = some Tryz.f289 := by kernel_rfl
theorem pv289 : PV 289 = none := by kernel_rfl
theorem fn290 : EV.fn 290 = some Tryz.f290 := by kernel_rfl
theorem pv290 : PV 290 = none := by kernel_rfl
theorem fn291 : EV.fn 291 = some Tryz.f291 := by kernel_rfl
theorem pv291 : PV 291 = none := by kernel_rfl
theorem fn292 : EV.fn 292 = some Tryz.f292 := by kernel_rfl
theorem pv292 : PV 292 = none := by kernel_rfl
theorem fn293 : EV.fn 293 = some Tryz.f293 := by kernel_rfl
theorem pv293 : PV 293 = none := by kernel_rfl
theorem fn294 : EV.fn 294 = some Tryz.f294 := by kernel_rfl
theorem pv294 : PV 294 = none := by kernel_rfl
theorem fn295 : EV.fn 295 = some Tryz.f295 := by kernel_rfl
theorem pv295 : PV 295 = none := by kernel_rfl
theorem fn297 : EV.fn 297 = some Tryz.f297 := by kernel_rfl
theorem pv297 : PV 297 = none := by kernel_rfl
theorem fn298 : EV.fn 298 = some Tryz.f298 := by kernel_rfl
theorem pv298 : PV 298 = none := by kernel_rfl
theorem fn299 : EV.fn 299 = some Tryz.f299 := by kernel_rfl
theorem pv299 : PV 299 = none := by kernel_rfl
theorem fn300 : EV.fn 300 = some Tryz.f300 := by kernel_rfl
theorem pv300 : PV 300 = none := by kernel_rfl
theorem fn301 : EV.fn 301 = some Tryz.f301 := by kernel_rfl
theorem pv301 : PV 301 = none := by kernel_rfl
theorem fn302 : EV.fn 302 = some Tryz.f302 := by kernel_rfl
theorem pv302 : PV 302 = none := by kernel_rfl
theorem fn303 : EV.fn 303 = some Tryz.f303 := by kernel_rfl
theorem pv303 : PV 303 = none := by kernel_rfl
theorem fn304 : EV.fn 304 = some Tryz.f304 := by kernel_rfl
theorem pv304 : PV 304 = none := by kernel_rfl
theorem fn305 : EV.fn 305 = some Tryz.f305 := by kernel_rfl
theorem pv305 : PV 305 = none := by kernel_rfl
theorem fn306 : EV.fn 306 = some Tryz.f306 := by kernel_rfl
theorem pv306 : PV 306 = none := by kernel_rfl
theorem fn307 : EV.fn 307 = some Tryz.f307 := by kernel_rfl
theorem pv307 : PV 307 = none := by kernel_rfl
theorem fn308 : EV.fn 308 = some Tryz.f308 := by kernel_rfl
theorem pv308 : PV 308 = none := by kernel_rfl
theorem fn309 : EV.fn 309 = some Tryz.f309 := by kernel_rfl
theorem pv309 : PV 309 = none := by kernel_rfl
theorem fn310 : EV.fn 310 = some Tryz.f310 := by kernel_rfl
theorem pv310 : PV 310 = none := by kernel_rfl
theorem fn311 : EV.fn 311 = some Tryz.f311 := by kernel_rfl
theorem pv311 : PV 311 = none := by kernel_rfl
theorem fn312 : EV.fn 312 = some Tryz.f312 := by kernel_rfl
theorem pv312 : PV 312 = none := by kernel_rfl
theorem fn313 : EV.fn 313 = some Tryz.f313 := by kernel_rfl
theorem pv313 : PV 313 = none := by kernel_rfl
theorem fn314 : EV.fn 314 = some Tryz.f314 := by kernel_rfl
theorem pv314 : PV 314 = none := by kernel_rfl
theorem fn315 : EV.fn 315 = some Tryz.f315 := by kernel_rfl
theorem pv315 : PV 315 = none := by kernel_rfl
theorem fn316 : EV.fn 316 = some Tryz.f316 := by kernel_rfl
theorem pv316 : PV 316 = none := by kernel_rfl
theorem fn317 : EV.fn 317 = some Tryz.f317 := by kernel_rfl
theorem pv317 : PV 317 = none := by kernel_rfl
theorem fn318 : EV.fn 318 = some Tryz.f318 := by kernel_rfl
theorem pv318 : PV 318 = none := by kernel_rfl
theorem fn319 : EV.fn 319 = some Tryz.f319 := by kernel_rfl
theorem pv319 : PV 319 = none := by kernel_rfl
theorem fn320 : EV.fn 320 = some Tryz.f320 := by kernel_rfl
theorem pv320 : PV 320 = none := by kernel_rfl
theorem fn321 : EV.fn 321 = some Tryz.f321 := by kernel_rfl
theorem pv321 : PV 321 = none := by kernel_rfl
theorem fn325 : EV.fn 325 = some Tryz.f325 := by kernel_rfl
theorem pv325 : PV 325 = none := by kernel_rfl
theorem fn326 : EV.fn 326 = some Tryz.f326 := by kernel_rfl
theorem pv326 : PV 326 = none := by kernel_rfl
theorem fn327 : EV.fn 327 = some Tryz.f327 := by kernel_rfl
theorem pv327 : PV 327 = none := by kernel_rfl
theorem fn328 : EV.fn 328 = some Tryz.f328 := by kernel_rfl
theorem pv328 : PV 328 = none := by kernel_rfl
theorem fn329 : EV.fn 329 = some Tryz.f329 := by kernel_rfl
theorem pv329 : PV 329 = none := by kernel_rfl
theorem fn330 : EV.fn 330 = some Tryz.f330 := by kernel_rfl
theorem pv330 : PV 330 = none := by kernel_rfl
theorem fn331 : EV.fn 331 = some Tryz.f331 := by kernel_rfl
theorem pv331 : PV 331 = none := by kernel_rfl
theorem fn332 : EV.fn 332 = some Tryz.f332 := by kernel_rfl
theorem pv332 : PV 332 = none := by kernel_rfl
theorem fn333 : EV.fn 333 = some Tryz.f333 := by kernel_rfl
theorem pv333 : PV 333 = none := by kernel_rfl
theorem fn334 : EV.fn 334 = some Tryz.f334 := by kernel_rfl
theorem pv334 : PV 334 = none := by kernel_rfl
theorem fn335 : EV.fn 335 = some Tryz.f335 := by kernel_rfl
theorem pv335 : PV 335 = none := by kernel_rfl
theorem fn336 : EV.fn 336 = some Tryz.f336 := by kernel_rfl
theorem pv336 : PV 336 = none := by kernel_rfl
theorem fn338 : EV.fn 338 = some Tryz.f338 := by kernel_rfl
theorem pv338 : PV 338 = none := by kernel_rfl
theorem fn341 : EV.fn 341 = some Tryz.f341 := by kernel_rfl
theorem pv341 : PV 341 = none := by kernel_rfl
theorem fn342 : EV.fn 342 = some Tryz.f342 := by kernel_rfl
theorem pv342 : PV 342 = none := by kernel_rfl
theorem fn343 : EV.fn 343 = some Tryz.f343 := by kernel_rfl
theorem pv343 : PV 343 = none := by kernel_rfl
theorem fn344 : EV.fn 344 = some Tryz.f344 := by kernel_rfl
theorem pv344 : PV 344 = none := by kernel_rfl
theorem fn345 : EV.fn 345 = some Tryz.f345 := by kernel_rfl
theorem pv345 : PV 345 = none := by kernel_rfl
theorem fn346 : EV.fn 346 = some Tryz.f346 := by kernel_rfl
theorem pv346 : PV 346 = none := by kernel_rfl
theorem fn347 : EV.fn 347 = some Tryz.f347 := by kernel_rfl
theorem pv347 : PV 347 = none := by kernel_rfl
theorem fn348 : EV.fn 348 = some Tryz.f348 := by kernel_rfl
theorem pv348 : PV 348 = none := by kernel_rfl
theorem fn349 : EV.fn 349 = some Tryz.f349 := by kernel_rfl
theorem pv349 : PV 349 = none := by kernel_rfl
theorem fn350 : EV.fn 350 = some Tryz.f350 := by kernel_rfl
theorem pv350 : PV 350 = none := by kernel_rfl
theorem fn351 : EV.fn 351 = some Tryz.f351 := by kernel_rfl
theorem pv351 : PV 351 = none := by kernel_rfl
theorem fn352 : EV.fn 352 = some Tryz.f352 := by kernel_rfl
theorem pv352 : PV 352 = none := by kernel_rfl
theorem fn353 : EV.fn 353 = some Tryz.f353 := by kernel_rfl
theorem pv353 : PV 353 = none := by kernel_rfl
theorem fn354 : EV.fn 354 = some Tryz.f354 := by kernel_rfl
theorem pv354 : PV 354 = none := by kernel_rfl
theorem fn355 : EV.fn 355 = some Tryz.f355 := by kernel_rfl
theorem pv355 : PV 355 = none := by kernel_rfl
theorem fn356 : EV.fn 356 = some Tryz.f356 := by kernel_rfl
theorem pv356 : PV 356 = none := by kernel_rfl
theorem fn357 : EV.fn 357 = some Tryz.f357 := by kernel_rfl
theorem pv357 : PV 357 = none := by kernel_rfl
theorem fn358 : EV.fn 358 = some Tryz.f358 := by kernel_rfl
theorem pv358 : PV 358 = none := by kernel_rfl
theorem fn359 : EV.fn 359 = some Tryz.f359 := by kernel_rfl
theorem pv359 : PV 359 = none := by kernel_rfl
theorem fn360 : EV.fn 360 = some Tryz.f360 := by kernel_rfl
theorem pv360 : PV 360 = none := by kernel_rfl
theorem fn361 : EV.fn 361 = some Tryz.f361 := by kernel_rfl
theorem pv361 : PV 361 = none := by kernel_rfl
theorem fn362 : EV.fn 362 = some Tryz.f362 := by kernel_rfl
theorem pv362 : PV 362 = none := by kernel_rfl
theorem fn363 : EV.fn 363 = some Tryz.f363 := by kernel_rfl
theorem pv363 : PV 363 = none := by kernel_rfl
theorem fn364 : EV.fn 364 = some Tryz.f364 := by kernel_rfl
theorem pv364 : PV 364 = none := by kernel_rfl
theorem fn365 : EV.fn 365 = some Tryz.f365 := by kernel_rfl
theorem pv365 : PV 365 = none := by kernel_rfl
theorem fn366 : EV.fn 366 = some Tryz.f366 := by kernel_rfl
theorem pv366 : PV 366 = none := by kernel_rfl
theorem fn367 : EV.fn 367 = some Tryz.f367 := by kernel_rfl
theorem pv367 : PV 367 = none := by kernel_rfl
theorem fn370 : EV.fn 370 = some Tryz.f370 := by kernel_rfl
theorem pv370 : PV 370 = none := by kernel_rfl
theorem fn371 : EV.fn 371 = some Tryz.f371 := by kernel_rfl
theorem pv371 : PV 371 = none := by kernel_rfl
theorem fn372 : EV.fn 372 = some Tryz.f372 := by kernel_rfl
theorem pv372 : PV 372 = none := by kernel_rfl
theorem fn373 : EV.fn 373 = some Tryz.f373 := by kernel_rfl
theorem pv373 : PV 373 = none := by kernel_rfl
theorem fn374 : EV.fn 374 = some Tryz.f374 := by kernel_rfl
theorem pv374 : PV 374 = none := by kernel_rfl
theorem fn375 : EV.fn 375 = some Tryz.f375 := by kernel_rfl
theorem pv375 : PV 375 = none := by kernel_rfl
theorem fn376 : EV.fn 376 = some Tryz.f376 := by kernel_rfl
theorem pv376 : PV 376 = none := by kernel_rfl
theorem fn377 : EV.fn 377 = some Tryz.f377 := by kernel_rfl
theorem pv377 : PV 377 = none := by kernel_rfl
theorem fn378 : EV.fn 378 = some Tryz.f378 := by kernel_rfl
theorem pv378 : PV 378 = none := by kernel_rfl
theorem fn379 : EV.fn 379 = some Tryz.f379 := by kernel_rfl
theorem pv379 : PV 379 = none := by kernel_rfl
theorem fn391 : EV.fn 391 = some Tryz.f391 := by kernel_rfl
theorem pv391 : PV 391 = none := by kernel_rfl
theorem fn392 : EV.fn 392 = some Tryz.f392 := by kernel_rfl
theorem pv392 : PV 392 = none := by kernel_rfl
theorem fn393 : EV.fn 393 = some Tryz.f393 := by kernel_rfl
theorem pv393 : PV 393 = none := by kernel_rfl
theorem fn394 : EV.fn 394 = some Tryz.f394 := by kernel_rfl
theorem pv394 : PV 394 = none := by kernel_rfl
theorem fn395 : EV.fn 395 = some Tryz.f395 := by kernel_rfl
theorem pv395 : PV 395 = none := by kernel_rfl
theorem fn396 : EV.fn 396 = some Tryz.f396 := by kernel_rfl
theorem pv396 : PV 396 = none := by kernel_rfl
theorem fn397 : EV.fn 397 = some Tryz.f397 := by kernel_rfl
theorem pv397 : PV 397 = none := by kernel_rfl
theorem fn398 : EV.fn 398 = some Tryz.f398 := by kernel_rfl
theorem pv398 : PV 398 = none := by kernel_rfl
theorem fn399 : EV.fn 399 = some Tryz.f399 := by kernel_rfl
theorem pv399 : PV 399 = none := by kernel_rfl
theorem fn400 : EV.fn 400 = some Tryz.f400 := by kernel_rfl
theorem pv400 : PV 400 = none := by kernel_rfl
theorem fn401 : EV.fn 401 = some Tryz.f401 := by kernel_rfl
theorem pv401 : PV 401 = none := by kernel_rfl
theorem fn402 : EV.fn 402 = some Tryz.f402 := by kernel_rfl
theorem pv402 : PV 402 = none := by kernel_rfl
theorem fn403 : EV.fn 403 = some Tryz.f403 := by kernel_rfl
theorem pv403 : PV 403 = none := by kernel_rfl
theorem fn404 : EV.fn 404 = some Tryz.f404 := by kernel_rfl
theorem pv404 : PV 404 = none := by kernel_rfl
theorem fn405 : EV.fn 405 = some Tryz.f405 := by kernel_rfl
theorem pv405 : PV 405 = none := by kernel_rfl
theorem fn406 : EV.fn 406 = some Tryz.f406 := by kernel_rfl
theorem pv406 : PV 406 = none := by kernel_rfl
theorem fn407 : EV.fn 407 = some Tryz.f407 := by kernel_rfl
theorem pv407 : PV 407 = none := by kernel_rfl
theorem fn408 : EV.fn 408 = some Tryz.f408 := by kernel_rfl
theorem pv408 : PV 408 = none := by kernel_rfl
theorem fn409 : EV.fn 409 = some Tryz.f409 := by kernel_rfl
theorem pv409 : PV 409 = none := by kernel_rfl
theorem fn410 : EV.fn 410 = some Tryz.f410 := by kernel_rfl
theorem pv410 : PV 410 = none := by kernel_rfl
theorem fn411 : EV.fn 411 = some Tryz.f411 := by kernel_rfl
theorem pv411 : PV 411 = none := by kernel_rfl
theorem fn412 : EV.fn 412 = some Tryz.f412 := by kernel_rfl
theorem pv412 : PV 412 = none := by kernel_rfl
theorem fn413 : EV.fn 413 = some Tryz.f413 := by kernel_rfl
theorem pv413 : PV 413 = none := by kernel_rfl
theorem fn414 : EV.fn 414 = some Tryz.f414 := by kernel_rfl
theorem pv414 : PV 414 = none := by kernel_rfl
theorem fn415 : EV.fn 415 = some Tryz.f415 := by kernel_rfl
theorem pv415 : PV 415 = none := by kernel_rfl
theorem fn416 : EV.fn 416 = some Tryz.f416 := by kernel_rfl
theorem pv416 : PV 416 = none := by kernel_rfl
theorem fn417 : EV.fn 417 = some Tryz.f417 := by kernel_rfl
theorem pv417 : PV 417 = none := by kernel_rfl
theorem fn418 : EV.fn 418 = some Tryz.f418 := by kernel_rfl
theorem pv418 : PV 418 = none := by kernel_rfl
theorem fn419 : EV.fn 419 = some Tryz.f419 := by kernel_rfl
theorem pv419 : PV 419 = none := by kernel_rfl
theorem fn420 : EV.fn 420 = some Tryz.f420 := by kernel_rfl
theorem pv420 : PV 420 = none := by kernel_rfl
theorem fn424 : EV.fn 424 = some Tryz.f424 := by kernel_rfl
theorem pv424 : PV 424 = none := by kernel_rfl
theorem fn427 : EV.fn 427 = some Tryz.f427 := by kernel_rfl
theorem pv427 : PV 427 = none := by kernel_rfl
theorem fn428 : EV.fn 428 = some Tryz.f428 := by kernel_rfl
theorem pv428 : PV 428 = none := by kernel_rfl
theorem fn429 : EV.fn 429 = some Tryz.f429 := by kernel_rfl
theorem pv429 : PV 429 = none := by kernel_rfl
theorem fn436 : EV.fn 436 = some Tryz.f436 := by kernel_rfl
theorem pv436 : PV 436 = none := by kernel_rfl
theorem fn437 : EV.fn 437 = some Tryz.f437 := by kernel_rfl
theorem pv437 : PV 437 = none := by kernel_rfl
theorem fn438 : EV.fn 438 = some Tryz.f438 := by kernel_rfl
theorem pv438 : PV 438 = none := by kernel_rfl
theorem fn439 : EV.fn 439 = some Tryz.f439 := by kernel_rfl
theorem pv439 : PV 439 = none := by kernel_rfl
theorem fn440 : EV.fn 440 = some Tryz.f440 := by kernel_rfl
theorem pv440 : PV 440 = none := by kernel_rfl
theorem fn441 : EV.fn 441 = some Tryz.f441 := by kernel_rfl
theorem pv441 : PV 441 = none := by kernel_rfl
theorem fn442 : EV.fn 442 = some Tryz.f442 := by kernel_rfl
theorem pv442 : PV 442 = none := by kernel_rfl
theorem fn443 : EV.fn 443 = some Tryz.f443 := by kernel_rfl
theorem pv443 : PV 443 = none := by kernel_rfl
theorem fn444 : EV.fn 444 = some Tryz.f444 := by kernel_rfl
theorem pv444 : PV 444 = none := by kernel_rfl
theorem fn445 : EV.fn 445 = some Tryz.f445 := by kernel_rfl
theorem pv445 : PV 445 = none := by kernel_rfl
theorem fn446 : EV.fn 446 = some Tryz.f446 := by kernel_rfl
theorem pv446 : PV 446 = none := by kernel_rfl
theorem fn447 : EV.fn 447 = some Tryz.f447 := by kernel_rfl
theorem pv447 : PV 447 = none := by kernel_rfl
theorem fn448 : EV.fn 448 = some Tryz.f448 := by kernel_rfl
theorem pv448 : PV 448 = none := by kernel_rfl
theorem fn449 : EV.fn 449 = some Tryz.f449 := by kernel_rfl
theorem pv449 : PV 449 = none := by kernel_rfl
theorem fn451 : EV.fn 451 = some Tryz.f451 := by kernel_rfl
theorem pv451 : PV 451 = none := by kernel_rfl
theorem fn452 : EV.fn 452 = some Tryz.f452 := by kernel_rfl
theorem pv452 : PV 452 = none := by kernel_rfl
theorem fn453 : EV.fn 453 = some Tryz.f453 := by kernel_rfl
theorem pv453 : PV 453 = none := by kernel_rfl
theorem fn454 : EV.fn 454 = some Tryz.f454 := by kernel_rfl
theorem pv454 : PV 454 = none := by kernel_rfl
theorem fn455 : EV.fn 455 = some Tryz.f455 := by kernel_rfl
theorem pv455 : PV 455 = none := by kernel_rfl
theorem fn456 : EV.fn 456 = some Tryz.f456 := by kernel_rfl
theorem pv456 : PV 456 = none := by kernel_rfl
theorem fn457 : EV.fn 457 = some Tryz.f457 := by kernel_rfl
theorem pv457 : PV 457 = none := by kernel_rfl
theorem fn458 : EV.fn 458 = some Tryz.f458 := by kernel_rfl
theorem pv458 : PV 458 = none := by kernel_rfl
theorem fn459 : EV.fn 459 = some Tryz.f459 := by kernel_rfl
theorem pv459 : PV 459 = none := by kernel_rfl
theorem fn460 : EV.fn 460 = some Tryz.f460 := by kernel_rfl
theorem pv460 : PV 460 = none := by kernel_rfl
theorem fn463 : EV.fn 463 = some Tryz.f463 := by kernel_rfl
theorem pv463 : PV 463 = none := by kernel_rfl
theorem fn465 : EV.fn 465 = some Tryz.f465 := by kernel_rfl
theorem pv465 : PV 465 = none := by kernel_rfl
theorem fn466 : EV.fn 466 = some Tryz.f466 := by kernel_rfl
theorem pv466 : PV 466 = none := by kernel_rfl
theorem fn467 : EV.fn 467 = some Tryz.f467 := by kernel_rfl
theorem pv467 : PV 467 = none := by kernel_rfl
theorem fn468 : EV.fn 468 = some Tryz.f468 := by kernel_rfl
theorem pv468 : PV 468 = none := by kernel_rfl
theorem fn469 : EV.fn 469 = some Tryz.f469 := by kernel_rfl
theorem pv469 : PV 469 = none := by kernel_rfl
theorem fn470 : EV.fn 470 = some Tryz.f470 := by kernel_rfl
theorem pv470 : PV 470 = none := by kernel_rfl
theorem fn471 : EV.fn 471 = some Tryz.f471 := by kernel_rfl
theorem pv471 : PV 471 = none := by kernel_rfl
theorem fn472 : EV.fn 472 = some Tryz.f472 := by kernel_rfl
theorem pv472 : PV 472 = none := by kernel_rfl
end Go.Proofs.YtkdjcmpgnkecfaaGreatDoor
