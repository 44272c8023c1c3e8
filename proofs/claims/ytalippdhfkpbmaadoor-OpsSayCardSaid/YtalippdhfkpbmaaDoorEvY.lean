/- What the walks ask of the types of this program. -/
import Derived.Test.YtalippdhfkpbmaaDoorEvW
import Derived.Test.YtalippdhfkpbmaaDoorChecked
namespace Go.Proofs.YtalippdhfkpbmaaDoor
open Go.RowKit Go
@[simp] theorem arr110 : arrOf Tryd.prog 110 = some (3, 3, 1, false) := by kernel_rfl
@[simp] theorem arr133 : arrOf Tryd.prog 133 = some (39, 9, 1, false) := by kernel_rfl
@[simp] theorem bool4 : boolT Tryd.prog 4 = true := by kernel_rfl
@[simp] theorem by23 : byOf Tryd.prog 23 = some 16 := by kernel_rfl
@[simp] theorem by3 : byOf Tryd.prog 3 = some 8 := by kernel_rfl
@[simp] theorem by4 : byOf Tryd.prog 4 = some 1 := by kernel_rfl
@[simp] theorem by43 : byOf Tryd.prog 43 = some 40 := by kernel_rfl
@[simp] theorem by47 : byOf Tryd.prog 47 = some 72 := by kernel_rfl
@[simp] theorem by49 : byOf Tryd.prog 49 = some 24 := by kernel_rfl
@[simp] theorem by51 : byOf Tryd.prog 51 = some 16 := by kernel_rfl
@[simp] theorem by63 : byOf Tryd.prog 63 = some 32 := by kernel_rfl
@[simp] theorem by73 : byOf Tryd.prog 73 = some 8 := by kernel_rfl
@[simp] theorem by9 : byOf Tryd.prog 9 = some 16 := by kernel_rfl
@[simp] theorem el29 : elOf Tryd.prog 29 = some (9, 1) := by kernel_rfl
@[simp] theorem el32 : elOf Tryd.prog 32 = some (47, 5) := by kernel_rfl
@[simp] theorem el33 : elOf Tryd.prog 33 = some (23, 2) := by kernel_rfl
@[simp] theorem el36 : elOf Tryd.prog 36 = some (49, 1) := by kernel_rfl
@[simp] theorem el37 : elOf Tryd.prog 37 = some (4, 1) := by kernel_rfl
@[simp] theorem el44 : elOf Tryd.prog 44 = some (3, 1) := by kernel_rfl
@[simp] theorem el45 : elOf Tryd.prog 45 = some (43, 5) := by kernel_rfl
@[simp] theorem el49 : elOf Tryd.prog 49 = some (51, 2) := by kernel_rfl
@[simp] theorem el59 : elOf Tryd.prog 59 = some (63, 2) := by kernel_rfl
@[simp] theorem el77 : elOf Tryd.prog 77 = some (73, 1) := by kernel_rfl
@[simp] theorem eqi23 : EqI Tryd.prog 23 2 := by
  intro x y l m w hl hm
  obtain ⟨a0, a1, rfl⟩ : ∃ a0 a1, l = [a0, a1] := by match l, hl with | [a0, a1], _ => exact ⟨a0, a1, rfl⟩
  obtain ⟨b0, b1, rfl⟩ : ∃ b0 b1, m = [b0, b1] := by match m, hm with | [b0, b1], _ => exact ⟨b0, b1, rfl⟩
  constructor <;> (simp [go_sem]; by_cases h0 : a0 = b0 <;> by_cases h1 : a1 = b1 <;> simp [h0, h1])
@[simp] theorem eqi51 : EqI Tryd.prog 51 2 := by
  intro x y l m w hl hm
  obtain ⟨a0, a1, rfl⟩ : ∃ a0 a1, l = [a0, a1] := by match l, hl with | [a0, a1], _ => exact ⟨a0, a1, rfl⟩
  obtain ⟨b0, b1, rfl⟩ : ∃ b0 b1, m = [b0, b1] := by match m, hm with | [b0, b1], _ => exact ⟨b0, b1, rfl⟩
  constructor <;> (simp [go_sem]; by_cases h0 : a0 = b0 <;> by_cases h1 : a1 = b1 <;> simp [h0, h1])
@[simp] theorem fld107_0 : fldOf Tryd.prog 107 0 = some (0, 3) := by kernel_rfl
@[simp] theorem fld107_1 : fldOf Tryd.prog 107 1 = some (3, 5) := by kernel_rfl
@[simp] theorem fld23_0 : fldOf Tryd.prog 23 0 = some (0, 1) := by kernel_rfl
@[simp] theorem fld23_1 : fldOf Tryd.prog 23 1 = some (1, 1) := by kernel_rfl
@[simp] theorem fld35_0 : fldOf Tryd.prog 35 0 = some (0, 1) := by kernel_rfl
@[simp] theorem fld35_1 : fldOf Tryd.prog 35 1 = some (1, 1) := by kernel_rfl
@[simp] theorem fld35_2 : fldOf Tryd.prog 35 2 = some (2, 1) := by kernel_rfl
@[simp] theorem fld43_0 : fldOf Tryd.prog 43 0 = some (0, 1) := by kernel_rfl
@[simp] theorem fld43_1 : fldOf Tryd.prog 43 1 = some (1, 1) := by kernel_rfl
@[simp] theorem fld43_2 : fldOf Tryd.prog 43 2 = some (2, 1) := by kernel_rfl
@[simp] theorem fld43_3 : fldOf Tryd.prog 43 3 = some (3, 1) := by kernel_rfl
@[simp] theorem fld43_4 : fldOf Tryd.prog 43 4 = some (4, 1) := by kernel_rfl
@[simp] theorem fld47_0 : fldOf Tryd.prog 47 0 = some (0, 1) := by kernel_rfl
@[simp] theorem fld47_1 : fldOf Tryd.prog 47 1 = some (1, 1) := by kernel_rfl
@[simp] theorem fld47_2 : fldOf Tryd.prog 47 2 = some (2, 1) := by kernel_rfl
@[simp] theorem fld47_3 : fldOf Tryd.prog 47 3 = some (3, 1) := by kernel_rfl
@[simp] theorem fld47_4 : fldOf Tryd.prog 47 4 = some (4, 1) := by kernel_rfl
@[simp] theorem fld63_0 : fldOf Tryd.prog 63 0 = some (0, 1) := by kernel_rfl
@[simp] theorem fld63_1 : fldOf Tryd.prog 63 1 = some (1, 1) := by kernel_rfl
@[simp] theorem fld98_0 : fldOf Tryd.prog 98 0 = some (0, 5) := by kernel_rfl
@[simp] theorem fld98_1 : fldOf Tryd.prog 98 1 = some (5, 1) := by kernel_rfl
@[simp] theorem fld98_2 : fldOf Tryd.prog 98 2 = some (6, 1) := by kernel_rfl
@[simp] theorem fld98_3 : fldOf Tryd.prog 98 3 = some (7, 1) := by kernel_rfl
@[simp] theorem fld98_4 : fldOf Tryd.prog 98 4 = some (8, 1) := by kernel_rfl
@[simp] theorem flds107 : fldsOf Tryd.prog 107 = some [(0, 3), (3, 5)] := by kernel_rfl
@[simp] theorem flds23 : fldsOf Tryd.prog 23 = some [(0, 1), (1, 1)] := by kernel_rfl
@[simp] theorem flds35 : fldsOf Tryd.prog 35 = some [(0, 1), (1, 1), (2, 1)] := by kernel_rfl
@[simp] theorem flds43 : fldsOf Tryd.prog 43 = some [(0, 1), (1, 1), (2, 1), (3, 1), (4, 1)] := by kernel_rfl
@[simp] theorem flds47 : fldsOf Tryd.prog 47 = some [(0, 1), (1, 1), (2, 1), (3, 1), (4, 1)] := by kernel_rfl
@[simp] theorem flds51 : fldsOf Tryd.prog 51 = some [(0, 1), (1, 1)] := by kernel_rfl
@[simp] theorem flds63 : fldsOf Tryd.prog 63 = some [(0, 1), (1, 1)] := by kernel_rfl
@[simp] theorem flds98 : fldsOf Tryd.prog 98 = some [(0, 5), (5, 1), (6, 1), (7, 1), (8, 1)] := by kernel_rfl
@[simp] theorem int3 : intT Tryd.prog 3 = some .i64 := by kernel_rfl
@[simp] theorem int64 : intT Tryd.prog 64 = some .u64 := by kernel_rfl
@[simp] theorem int90 : intT Tryd.prog 90 = some .u64 := by kernel_rfl
@[simp] theorem map103 : mapT Tryd.prog 103 = some 9 := by kernel_rfl
@[simp] theorem keyed9 : Go.Maps.Keyed Tryd.prog 9 := Go.Maps.string_keyed (by kernel_rfl)
theorem keyin9 {s : ByteArray} (h : s.size ≤ maxLen) : KeyIn 9 (.string s) := ⟨_, Go.WideMaps.keyOf_string_mk (by kernel_rfl) h⟩
@[simp] theorem el133 : elOf Tryd.prog 133 = none := by kernel_rfl
@[simp] theorem flds110 : fldsOf Tryd.prog 110 = none := by kernel_rfl
@[simp] theorem flds133 : fldsOf Tryd.prog 133 = none := by kernel_rfl
@[simp] theorem row107 : rowT Tryd.prog 107 = some true := by kernel_rfl
@[simp] theorem row23 : rowT Tryd.prog 23 = some true := by kernel_rfl
@[simp] theorem row29 : rowT Tryd.prog 29 = some false := by kernel_rfl
@[simp] theorem row3 : rowT Tryd.prog 3 = some false := by kernel_rfl
@[simp] theorem row32 : rowT Tryd.prog 32 = some false := by kernel_rfl
@[simp] theorem row33 : rowT Tryd.prog 33 = some false := by kernel_rfl
@[simp] theorem row35 : rowT Tryd.prog 35 = some true := by kernel_rfl
@[simp] theorem row36 : rowT Tryd.prog 36 = some false := by kernel_rfl
@[simp] theorem row37 : rowT Tryd.prog 37 = some false := by kernel_rfl
@[simp] theorem row4 : rowT Tryd.prog 4 = some false := by kernel_rfl
@[simp] theorem row43 : rowT Tryd.prog 43 = some true := by kernel_rfl
@[simp] theorem row44 : rowT Tryd.prog 44 = some false := by kernel_rfl
@[simp] theorem row45 : rowT Tryd.prog 45 = some false := by kernel_rfl
@[simp] theorem row47 : rowT Tryd.prog 47 = some true := by kernel_rfl
@[simp] theorem row49 : rowT Tryd.prog 49 = some false := by kernel_rfl
@[simp] theorem row51 : rowT Tryd.prog 51 = some true := by kernel_rfl
@[simp] theorem row63 : rowT Tryd.prog 63 = some true := by kernel_rfl
@[simp] theorem row73 : rowT Tryd.prog 73 = some false := by kernel_rfl
@[simp] theorem row9 : rowT Tryd.prog 9 = some false := by kernel_rfl
@[simp] theorem str9 : isStr Tryd.prog 9 = true := by kernel_rfl
@[simp] theorem sz107 : szOf Tryd.prog 107 = some 8 := by kernel_rfl
@[simp] theorem sz133 : szOf Tryd.prog 133 = some 39 := by kernel_rfl
@[simp] theorem sz23 : szOf Tryd.prog 23 = some 2 := by kernel_rfl
@[simp] theorem sz29 : szOf Tryd.prog 29 = some 1 := by kernel_rfl
@[simp] theorem sz3 : szOf Tryd.prog 3 = some 1 := by kernel_rfl
@[simp] theorem sz32 : szOf Tryd.prog 32 = some 1 := by kernel_rfl
@[simp] theorem sz33 : szOf Tryd.prog 33 = some 1 := by kernel_rfl
@[simp] theorem sz35 : szOf Tryd.prog 35 = some 3 := by kernel_rfl
@[simp] theorem sz4 : szOf Tryd.prog 4 = some 1 := by kernel_rfl
@[simp] theorem sz43 : szOf Tryd.prog 43 = some 5 := by kernel_rfl
@[simp] theorem sz44 : szOf Tryd.prog 44 = some 1 := by kernel_rfl
@[simp] theorem sz45 : szOf Tryd.prog 45 = some 1 := by kernel_rfl
@[simp] theorem sz47 : szOf Tryd.prog 47 = some 5 := by kernel_rfl
@[simp] theorem sz49 : szOf Tryd.prog 49 = some 1 := by kernel_rfl
@[simp] theorem sz51 : szOf Tryd.prog 51 = some 2 := by kernel_rfl
@[simp] theorem sz63 : szOf Tryd.prog 63 = some 2 := by kernel_rfl
@[simp] theorem zero107 : zeroOf Tryd.prog 107 = some [.slice none 0 0, .slice none 0 0, .slice none 0 0, .int .i64 0, .int .i64 0, .bool false, .slice none 0 0, .slice none 0 0] := by kernel_rfl
@[simp] theorem zero110 : zeroOf Tryd.prog 110 = some [.int .i64 0, .int .i64 0, .int .i64 0] := by kernel_rfl
@[simp] theorem zero133 : zeroOf Tryd.prog 133 = some [.string ByteArray.empty, .string ByteArray.empty, .string ByteArray.empty, .string ByteArray.empty, .string ByteArray.empty, .string ByteArray.empty, .string ByteArray.empty, .string ByteArray.empty, .string ByteArray.empty, .string ByteArray.empty, .string ByteArray.empty, .string ByteArray.empty, .string ByteArray.empty, .string ByteArray.empty, .string ByteArray.empty, .string ByteArray.empty, .string ByteArray.empty, .string ByteArray.empty, .string ByteArray.empty, .string ByteArray.empty, .string ByteArray.empty, .string ByteArray.empty, .string ByteArray.empty, .string ByteArray.empty, .string ByteArray.empty, .string ByteArray.empty, .string ByteArray.empty, .string ByteArray.empty, .string ByteArray.empty, .string ByteArray.empty, .string ByteArray.empty, .string ByteArray.empty, .string ByteArray.empty, .string ByteArray.empty, .string ByteArray.empty, .string ByteArray.empty, .string ByteArray.empty, .string ByteArray.empty, .string ByteArray.empty] := by kernel_rfl
@[simp] theorem zero23 : zeroOf Tryd.prog 23 = some [.int .i64 0, .int .i64 0] := by kernel_rfl
@[simp] theorem zero3 : zeroOf Tryd.prog 3 = some [.int .i64 0] := by kernel_rfl
@[simp] theorem zero35 : zeroOf Tryd.prog 35 = some [.slice none 0 0, .slice none 0 0, .slice none 0 0] := by kernel_rfl
@[simp] theorem zero4 : zeroOf Tryd.prog 4 = some [.bool false] := by kernel_rfl
@[simp] theorem zero43 : zeroOf Tryd.prog 43 = some [.int .i64 0, .int .i64 0, .int .i64 0, .int .i64 0, .int .i64 0] := by kernel_rfl
@[simp] theorem zero47 : zeroOf Tryd.prog 47 = some [.int .i64 0, .int .i64 0, .bool false, .slice none 0 0, .slice none 0 0] := by kernel_rfl
@[simp] theorem zero49 : zeroOf Tryd.prog 49 = some [.slice none 0 0] := by kernel_rfl
@[simp] theorem zero51 : zeroOf Tryd.prog 51 = some [.int .i64 0, .int .i64 0] := by kernel_rfl
@[simp] theorem zero63 : zeroOf Tryd.prog 63 = some [.bool false, .slice none 0 0] := by kernel_rfl
@[simp] theorem zero73 : zeroOf Tryd.prog 73 = some [.float .f64 0] := by kernel_rfl
@[simp] theorem zero9 : zeroOf Tryd.prog 9 = some [.string ByteArray.empty] := by kernel_rfl
@[simp] theorem zero98 : zeroOf Tryd.prog 98 = some [.int .i64 0, .int .i64 0, .bool false, .slice none 0 0, .slice none 0 0, .slice none 0 0, .slice none 0 0, .slice none 0 0, .bool false] := by kernel_rfl
end Go.Proofs.YtalippdhfkpbmaaDoor
