/- The rows of the type table that the walks need. Printed by gen_ty.py. -/
import Derived.Test.YtpadocjddoenhaaSo
import Derived.Test.YtpadocjddoenhaaProg
import Derived.KernelRfl
namespace Go.Proofs.Ytpadocjddoenhaa
open Go SX
set_option linter.unusedVariables false
set_option maxRecDepth 100000

@[reducible] def ty1 : TI := ⟨1, 8, [.nilFunc], .sc, none⟩
theorem ty1_ok : TIok Try.prog 1 ty1 where
  info := ⟨Try.types.getD 1 default, .nilFunc, by kernel_rfl, by kernel_rfl, by kernel_rfl, by kernel_rfl, rfl, rfl, rfl⟩
  kd := (show ∃ d, Try.prog.underlying 1 = some d ∧ scD d = true from ⟨(Try.prog.underlying 1).getD .bool, by kernel_rfl, by kernel_rfl⟩)
  eq := fun es h => by cases h
@[reducible] def ty2 : TI := ⟨1, 8, [.int .i64 0], .int .i64, none⟩
theorem ty2_ok : TIok Try.prog 2 ty2 where
  info := ⟨Try.types.getD 2 default, .int .i64 0, by kernel_rfl, by kernel_rfl, by kernel_rfl, by kernel_rfl, rfl, rfl, rfl⟩
  kd := (show Try.prog.underlying 2 = some (.int .i64) from by kernel_rfl)
  eq := fun es h => by cases h
theorem ty2_eq : EqOK Try.prog ty2 2 [.int .i64] 1 := eq_int (by kernel_rfl) rfl
@[reducible] def ty3 : TI := ⟨1, 8, [.int .i64 0], .int .i64, none⟩
theorem ty3_ok : TIok Try.prog 3 ty3 where
  info := ⟨Try.types.getD 3 default, .int .i64 0, by kernel_rfl, by kernel_rfl, by kernel_rfl, by kernel_rfl, rfl, rfl, rfl⟩
  kd := (show Try.prog.underlying 3 = some (.int .i64) from by kernel_rfl)
  eq := fun es h => by cases h
theorem ty3_eq : EqOK Try.prog ty3 3 [.int .i64] 1 := eq_int (by kernel_rfl) rfl
@[reducible] def ty4 : TI := ⟨1, 1, [.bool false], .bl, none⟩
theorem ty4_ok : TIok Try.prog 4 ty4 where
  info := ⟨Try.types.getD 4 default, .bool false, by kernel_rfl, by kernel_rfl, by kernel_rfl, by kernel_rfl, rfl, rfl, rfl⟩
  kd := (show Try.prog.underlying 4 = some .bool from by kernel_rfl)
  eq := fun es h => by cases h
theorem ty4_eq : EqOK Try.prog ty4 4 [.bool] 1 := eq_bool (by kernel_rfl) rfl
@[reducible] def ty5 : TI := ⟨1, 1, [.int .u8 0], .int .u8, none⟩
theorem ty5_ok : TIok Try.prog 5 ty5 where
  info := ⟨Try.types.getD 5 default, .int .u8 0, by kernel_rfl, by kernel_rfl, by kernel_rfl, by kernel_rfl, rfl, rfl, rfl⟩
  kd := (show Try.prog.underlying 5 = some (.int .u8) from by kernel_rfl)
  eq := fun es h => by cases h
theorem ty5_eq : EqOK Try.prog ty5 5 [.int .u8] 1 := eq_int (by kernel_rfl) rfl
@[reducible] def ty9 : TI := ⟨1, 16, [.string .empty], .str, none⟩
theorem ty9_ok : TIok Try.prog 9 ty9 where
  info := ⟨Try.types.getD 9 default, .string .empty, by kernel_rfl, by kernel_rfl, by kernel_rfl, by kernel_rfl, rfl, rfl, rfl⟩
  kd := (show Try.prog.underlying 9 = some .string from by kernel_rfl)
  eq := fun es h => by cases h
@[reducible] def ty12 : TI := ⟨1, 8, [.int .u64 0], .int .u64, none⟩
theorem ty12_ok : TIok Try.prog 12 ty12 where
  info := ⟨Try.types.getD 12 default, .int .u64 0, by kernel_rfl, by kernel_rfl, by kernel_rfl, by kernel_rfl, rfl, rfl, rfl⟩
  kd := (show Try.prog.underlying 12 = some (.int .u64) from by kernel_rfl)
  eq := fun es h => by cases h
theorem ty12_eq : EqOK Try.prog ty12 12 [.int .u64] 1 := eq_int (by kernel_rfl) rfl
@[reducible] def ty21 : TI := ⟨1, 4, [.int .i32 0], .int .i32, none⟩
theorem ty21_ok : TIok Try.prog 21 ty21 where
  info := ⟨Try.types.getD 21 default, .int .i32 0, by kernel_rfl, by kernel_rfl, by kernel_rfl, by kernel_rfl, rfl, rfl, rfl⟩
  kd := (show Try.prog.underlying 21 = some (.int .i32) from by kernel_rfl)
  eq := fun es h => by cases h
theorem ty21_eq : EqOK Try.prog ty21 21 [.int .i32] 1 := eq_int (by kernel_rfl) rfl
@[reducible] def ty22 : TI := ⟨1, 8, [.nilFunc], .sc, none⟩
theorem ty22_ok : TIok Try.prog 22 ty22 where
  info := ⟨Try.types.getD 22 default, .nilFunc, by kernel_rfl, by kernel_rfl, by kernel_rfl, by kernel_rfl, rfl, rfl, rfl⟩
  kd := (show ∃ d, Try.prog.underlying 22 = some d ∧ scD d = true from ⟨(Try.prog.underlying 22).getD .bool, by kernel_rfl, by kernel_rfl⟩)
  eq := fun es h => by cases h
@[reducible] def ty23 : TI := ⟨1, 8, [.nilFunc], .sc, none⟩
theorem ty23_ok : TIok Try.prog 23 ty23 where
  info := ⟨Try.types.getD 23 default, .nilFunc, by kernel_rfl, by kernel_rfl, by kernel_rfl, by kernel_rfl, rfl, rfl, rfl⟩
  kd := (show ∃ d, Try.prog.underlying 23 = some d ∧ scD d = true from ⟨(Try.prog.underlying 23).getD .bool, by kernel_rfl, by kernel_rfl⟩)
  eq := fun es h => by cases h
@[reducible] def ty24 : TI := ⟨1, 24, [.slice none 0 0], .sl 5, none⟩
theorem ty24_ok : TIok Try.prog 24 ty24 where
  info := ⟨Try.types.getD 24 default, .slice none 0 0, by kernel_rfl, by kernel_rfl, by kernel_rfl, by kernel_rfl, rfl, rfl, rfl⟩
  kd := (show Try.prog.underlying 24 = some (.slice 5) from by kernel_rfl)
  eq := fun es h => by cases h
@[reducible] def ty25 : TI := ⟨1, 8, [.nilFunc], .sc, none⟩
theorem ty25_ok : TIok Try.prog 25 ty25 where
  info := ⟨Try.types.getD 25 default, .nilFunc, by kernel_rfl, by kernel_rfl, by kernel_rfl, by kernel_rfl, rfl, rfl, rfl⟩
  kd := (show ∃ d, Try.prog.underlying 25 = some d ∧ scD d = true from ⟨(Try.prog.underlying 25).getD .bool, by kernel_rfl, by kernel_rfl⟩)
  eq := fun es h => by cases h
@[reducible] def ty26 : TI := ⟨1, 1, [.int .i8 0], .int .i8, none⟩
theorem ty26_ok : TIok Try.prog 26 ty26 where
  info := ⟨Try.types.getD 26 default, .int .i8 0, by kernel_rfl, by kernel_rfl, by kernel_rfl, by kernel_rfl, rfl, rfl, rfl⟩
  kd := (show Try.prog.underlying 26 = some (.int .i8) from by kernel_rfl)
  eq := fun es h => by cases h
theorem ty26_eq : EqOK Try.prog ty26 26 [.int .i8] 1 := eq_int (by kernel_rfl) rfl
@[reducible] def ty27 : TI := ⟨3, 40, [.int .i64 0, .int .i64 0, .slice none 0 0], .st [(0, 3), (1, 3), (2, 24)], none⟩
theorem ty27_ok : TIok Try.prog 27 ty27 where
  info := ⟨Try.types.getD 27 default, .agg #[.int .i64 0, .int .i64 0, .slice none 0 0], by kernel_rfl, by kernel_rfl, by kernel_rfl, by kernel_rfl, rfl, rfl, rfl⟩
  kd := (show ∃ fields, Try.prog.underlying 27 = some (.struct fields) ∧ fields.toList.map (fun f => (f.offset, f.type)) = [(0, 3), (1, 3), (2, 24)] from ⟨Try.prog.fieldsOf 27, by kernel_rfl, by kernel_rfl⟩)
  eq := fun es h => by cases h
@[reducible] def ty28 : TI := ⟨3, 40, [.int .i64 0, .int .i64 0, .slice none 0 0], .st [(0, 3), (1, 3), (2, 24)], none⟩
theorem ty28_ok : TIok Try.prog 28 ty28 where
  info := ⟨Try.types.getD 28 default, .agg #[.int .i64 0, .int .i64 0, .slice none 0 0], by kernel_rfl, by kernel_rfl, by kernel_rfl, by kernel_rfl, rfl, rfl, rfl⟩
  kd := (show ∃ fields, Try.prog.underlying 28 = some (.struct fields) ∧ fields.toList.map (fun f => (f.offset, f.type)) = [(0, 3), (1, 3), (2, 24)] from ⟨Try.prog.fieldsOf 28, by kernel_rfl, by kernel_rfl⟩)
  eq := fun es h => by cases h
@[reducible] def ty29 : TI := ⟨1, 8, [.nilFunc], .sc, none⟩
theorem ty29_ok : TIok Try.prog 29 ty29 where
  info := ⟨Try.types.getD 29 default, .nilFunc, by kernel_rfl, by kernel_rfl, by kernel_rfl, by kernel_rfl, rfl, rfl, rfl⟩
  kd := (show ∃ d, Try.prog.underlying 29 = some d ∧ scD d = true from ⟨(Try.prog.underlying 29).getD .bool, by kernel_rfl, by kernel_rfl⟩)
  eq := fun es h => by cases h
@[reducible] def ty30 : TI := ⟨9, 120, [.int .i64 0, .int .i64 0, .slice none 0 0, .int .i64 0, .int .i64 0, .slice none 0 0, .int .i64 0, .int .i64 0, .slice none 0 0], .ar 3 28, none⟩
theorem ty30_ok : TIok Try.prog 30 ty30 where
  info := ⟨Try.types.getD 30 default, .agg #[.int .i64 0, .int .i64 0, .slice none 0 0, .int .i64 0, .int .i64 0, .slice none 0 0, .int .i64 0, .int .i64 0, .slice none 0 0], by kernel_rfl, by kernel_rfl, by kernel_rfl, by kernel_rfl, rfl, rfl, rfl⟩
  kd := (show Try.prog.underlying 30 = some (.array 3 28) from by kernel_rfl)
  eq := fun es h => by cases h
@[reducible] def ty31 : TI := ⟨1, 8, [.int .i64 0], .int .i64, none⟩
theorem ty31_ok : TIok Try.prog 31 ty31 where
  info := ⟨Try.types.getD 31 default, .int .i64 0, by kernel_rfl, by kernel_rfl, by kernel_rfl, by kernel_rfl, rfl, rfl, rfl⟩
  kd := (show Try.prog.underlying 31 = some (.int .i64) from by kernel_rfl)
  eq := fun es h => by cases h
theorem ty31_eq : EqOK Try.prog ty31 31 [.int .i64] 1 := eq_int (by kernel_rfl) rfl
@[reducible] def ty33 : TI := ⟨1, 8, [.nilFunc], .sc, none⟩
theorem ty33_ok : TIok Try.prog 33 ty33 where
  info := ⟨Try.types.getD 33 default, .nilFunc, by kernel_rfl, by kernel_rfl, by kernel_rfl, by kernel_rfl, rfl, rfl, rfl⟩
  kd := (show ∃ d, Try.prog.underlying 33 = some d ∧ scD d = true from ⟨(Try.prog.underlying 33).getD .bool, by kernel_rfl, by kernel_rfl⟩)
  eq := fun es h => by cases h
@[reducible] def ty34 : TI := ⟨1, 8, [.nilFunc], .sc, none⟩
theorem ty34_ok : TIok Try.prog 34 ty34 where
  info := ⟨Try.types.getD 34 default, .nilFunc, by kernel_rfl, by kernel_rfl, by kernel_rfl, by kernel_rfl, rfl, rfl, rfl⟩
  kd := (show ∃ d, Try.prog.underlying 34 = some d ∧ scD d = true from ⟨(Try.prog.underlying 34).getD .bool, by kernel_rfl, by kernel_rfl⟩)
  eq := fun es h => by cases h
@[reducible] def ty99 : TI := ⟨1, 2, [.int .i16 0], .int .i16, none⟩
theorem ty99_ok : TIok Try.prog 99 ty99 where
  info := ⟨Try.types.getD 99 default, .int .i16 0, by kernel_rfl, by kernel_rfl, by kernel_rfl, by kernel_rfl, rfl, rfl, rfl⟩
  kd := (show Try.prog.underlying 99 = some (.int .i16) from by kernel_rfl)
  eq := fun es h => by cases h
theorem ty99_eq : EqOK Try.prog ty99 99 [.int .i16] 1 := eq_int (by kernel_rfl) rfl
@[reducible] def ty101 : TI := ⟨3, 6, [.int .i16 0, .int .i16 0, .bool false], .st [(0, 99), (1, 99), (2, 4)], some [.int .i16, .int .i16, .bool]⟩
theorem ty101_eq : EqOK Try.prog ty101 101 [.int .i16, .int .i16, .bool] 2 := eq_struct (fs := Try.prog.fieldsOf 101) (by kernel_rfl) (by kernel_rfl) rfl (.of (show (Try.prog.fieldsOf 101).toList = [(Try.prog.fieldsOf 101).getD 0 default, (Try.prog.fieldsOf 101).getD 1 default, (Try.prog.fieldsOf 101).getD 2 default] by kernel_rfl) (.c (f := (Try.prog.fieldsOf 101).getD 0 default) (by kernel_rfl) (by kernel_rfl) (by kernel_rfl) ty99_ok ty99_eq rfl (.inr rfl) (.c (f := (Try.prog.fieldsOf 101).getD 1 default) (by kernel_rfl) (by kernel_rfl) (by kernel_rfl) ty99_ok ty99_eq rfl (.inr rfl) (.c (f := (Try.prog.fieldsOf 101).getD 2 default) (by kernel_rfl) (by kernel_rfl) (by kernel_rfl) ty4_ok ty4_eq rfl (.inr rfl) (.nil _)))))
theorem ty101_ok : TIok Try.prog 101 ty101 where
  info := ⟨Try.types.getD 101 default, .agg #[.int .i16 0, .int .i16 0, .bool false], by kernel_rfl, by kernel_rfl, by kernel_rfl, by kernel_rfl, rfl, rfl, rfl⟩
  kd := (show ∃ fields, Try.prog.underlying 101 = some (.struct fields) ∧ fields.toList.map (fun f => (f.offset, f.type)) = [(0, 99), (1, 99), (2, 4)] from ⟨Try.prog.fieldsOf 101, by kernel_rfl, by kernel_rfl⟩)
  eq := fun es h xs ys hx hy x y w => by
    cases h
    exact eq_of (m := 2) (by decide) rfl (by kernel_rfl) ty101_eq xs ys hx hy x y w
@[reducible] def ty72 : TI := ⟨1, 24, [.slice none 0 0], .sl 101, none⟩
theorem ty72_ok : TIok Try.prog 72 ty72 where
  info := ⟨Try.types.getD 72 default, .slice none 0 0, by kernel_rfl, by kernel_rfl, by kernel_rfl, by kernel_rfl, rfl, rfl, rfl⟩
  kd := (show Try.prog.underlying 72 = some (.slice 101) from by kernel_rfl)
  eq := fun es h => by cases h
@[reducible] def ty35 : TI := ⟨1, 24, [.slice none 0 0], .sl 72, none⟩
theorem ty35_ok : TIok Try.prog 35 ty35 where
  info := ⟨Try.types.getD 35 default, .slice none 0 0, by kernel_rfl, by kernel_rfl, by kernel_rfl, by kernel_rfl, rfl, rfl, rfl⟩
  kd := (show Try.prog.underlying 35 = some (.slice 72) from by kernel_rfl)
  eq := fun es h => by cases h
@[reducible] def ty36 : TI := ⟨6, 6, [.int .u8 0, .int .u8 0, .int .u8 0, .int .u8 0, .int .u8 0, .int .u8 0], .st [(0, 5), (1, 5), (2, 5), (3, 5), (4, 5), (5, 5)], some [.int .u8, .int .u8, .int .u8, .int .u8, .int .u8, .int .u8]⟩
theorem ty36_eq : EqOK Try.prog ty36 36 [.int .u8, .int .u8, .int .u8, .int .u8, .int .u8, .int .u8] 2 := eq_struct (fs := Try.prog.fieldsOf 36) (by kernel_rfl) (by kernel_rfl) rfl (.of (show (Try.prog.fieldsOf 36).toList = [(Try.prog.fieldsOf 36).getD 0 default, (Try.prog.fieldsOf 36).getD 1 default, (Try.prog.fieldsOf 36).getD 2 default, (Try.prog.fieldsOf 36).getD 3 default, (Try.prog.fieldsOf 36).getD 4 default, (Try.prog.fieldsOf 36).getD 5 default] by kernel_rfl) (.c (f := (Try.prog.fieldsOf 36).getD 0 default) (by kernel_rfl) (by kernel_rfl) (by kernel_rfl) ty5_ok ty5_eq rfl (.inr rfl) (.c (f := (Try.prog.fieldsOf 36).getD 1 default) (by kernel_rfl) (by kernel_rfl) (by kernel_rfl) ty5_ok ty5_eq rfl (.inr rfl) (.c (f := (Try.prog.fieldsOf 36).getD 2 default) (by kernel_rfl) (by kernel_rfl) (by kernel_rfl) ty5_ok ty5_eq rfl (.inr rfl) (.c (f := (Try.prog.fieldsOf 36).getD 3 default) (by kernel_rfl) (by kernel_rfl) (by kernel_rfl) ty5_ok ty5_eq rfl (.inr rfl) (.c (f := (Try.prog.fieldsOf 36).getD 4 default) (by kernel_rfl) (by kernel_rfl) (by kernel_rfl) ty5_ok ty5_eq rfl (.inr rfl) (.c (f := (Try.prog.fieldsOf 36).getD 5 default) (by kernel_rfl) (by kernel_rfl) (by kernel_rfl) ty5_ok ty5_eq rfl (.inr rfl) (.nil _))))))))
theorem ty36_ok : TIok Try.prog 36 ty36 where
  info := ⟨Try.types.getD 36 default, .agg #[.int .u8 0, .int .u8 0, .int .u8 0, .int .u8 0, .int .u8 0, .int .u8 0], by kernel_rfl, by kernel_rfl, by kernel_rfl, by kernel_rfl, rfl, rfl, rfl⟩
  kd := (show ∃ fields, Try.prog.underlying 36 = some (.struct fields) ∧ fields.toList.map (fun f => (f.offset, f.type)) = [(0, 5), (1, 5), (2, 5), (3, 5), (4, 5), (5, 5)] from ⟨Try.prog.fieldsOf 36, by kernel_rfl, by kernel_rfl⟩)
  eq := fun es h xs ys hx hy x y w => by
    cases h
    exact eq_of (m := 2) (by decide) rfl (by kernel_rfl) ty36_eq xs ys hx hy x y w
@[reducible] def ty37 : TI := ⟨6, 6, [.int .u8 0, .int .u8 0, .int .u8 0, .int .u8 0, .int .u8 0, .int .u8 0], .st [(0, 5), (1, 5), (2, 5), (3, 5), (4, 5), (5, 5)], some [.int .u8, .int .u8, .int .u8, .int .u8, .int .u8, .int .u8]⟩
theorem ty37_eq : EqOK Try.prog ty37 37 [.int .u8, .int .u8, .int .u8, .int .u8, .int .u8, .int .u8] 2 := eq_struct (fs := Try.prog.fieldsOf 37) (by kernel_rfl) (by kernel_rfl) rfl (.of (show (Try.prog.fieldsOf 37).toList = [(Try.prog.fieldsOf 37).getD 0 default, (Try.prog.fieldsOf 37).getD 1 default, (Try.prog.fieldsOf 37).getD 2 default, (Try.prog.fieldsOf 37).getD 3 default, (Try.prog.fieldsOf 37).getD 4 default, (Try.prog.fieldsOf 37).getD 5 default] by kernel_rfl) (.c (f := (Try.prog.fieldsOf 37).getD 0 default) (by kernel_rfl) (by kernel_rfl) (by kernel_rfl) ty5_ok ty5_eq rfl (.inr rfl) (.c (f := (Try.prog.fieldsOf 37).getD 1 default) (by kernel_rfl) (by kernel_rfl) (by kernel_rfl) ty5_ok ty5_eq rfl (.inr rfl) (.c (f := (Try.prog.fieldsOf 37).getD 2 default) (by kernel_rfl) (by kernel_rfl) (by kernel_rfl) ty5_ok ty5_eq rfl (.inr rfl) (.c (f := (Try.prog.fieldsOf 37).getD 3 default) (by kernel_rfl) (by kernel_rfl) (by kernel_rfl) ty5_ok ty5_eq rfl (.inr rfl) (.c (f := (Try.prog.fieldsOf 37).getD 4 default) (by kernel_rfl) (by kernel_rfl) (by kernel_rfl) ty5_ok ty5_eq rfl (.inr rfl) (.c (f := (Try.prog.fieldsOf 37).getD 5 default) (by kernel_rfl) (by kernel_rfl) (by kernel_rfl) ty5_ok ty5_eq rfl (.inr rfl) (.nil _))))))))
theorem ty37_ok : TIok Try.prog 37 ty37 where
  info := ⟨Try.types.getD 37 default, .agg #[.int .u8 0, .int .u8 0, .int .u8 0, .int .u8 0, .int .u8 0, .int .u8 0], by kernel_rfl, by kernel_rfl, by kernel_rfl, by kernel_rfl, rfl, rfl, rfl⟩
  kd := (show ∃ fields, Try.prog.underlying 37 = some (.struct fields) ∧ fields.toList.map (fun f => (f.offset, f.type)) = [(0, 5), (1, 5), (2, 5), (3, 5), (4, 5), (5, 5)] from ⟨Try.prog.fieldsOf 37, by kernel_rfl, by kernel_rfl⟩)
  eq := fun es h xs ys hx hy x y w => by
    cases h
    exact eq_of (m := 2) (by decide) rfl (by kernel_rfl) ty37_eq xs ys hx hy x y w
@[reducible] def ty56 : TI := ⟨2, 16, [.int .i64 0, .int .i64 0], .st [(0, 3), (1, 3)], some [.int .i64, .int .i64]⟩
theorem ty56_eq : EqOK Try.prog ty56 56 [.int .i64, .int .i64] 2 := eq_struct (fs := Try.prog.fieldsOf 56) (by kernel_rfl) (by kernel_rfl) rfl (.of (show (Try.prog.fieldsOf 56).toList = [(Try.prog.fieldsOf 56).getD 0 default, (Try.prog.fieldsOf 56).getD 1 default] by kernel_rfl) (.c (f := (Try.prog.fieldsOf 56).getD 0 default) (by kernel_rfl) (by kernel_rfl) (by kernel_rfl) ty3_ok ty3_eq rfl (.inr rfl) (.c (f := (Try.prog.fieldsOf 56).getD 1 default) (by kernel_rfl) (by kernel_rfl) (by kernel_rfl) ty3_ok ty3_eq rfl (.inr rfl) (.nil _))))
theorem ty56_ok : TIok Try.prog 56 ty56 where
  info := ⟨Try.types.getD 56 default, .agg #[.int .i64 0, .int .i64 0], by kernel_rfl, by kernel_rfl, by kernel_rfl, by kernel_rfl, rfl, rfl, rfl⟩
  kd := (show ∃ fields, Try.prog.underlying 56 = some (.struct fields) ∧ fields.toList.map (fun f => (f.offset, f.type)) = [(0, 3), (1, 3)] from ⟨Try.prog.fieldsOf 56, by kernel_rfl, by kernel_rfl⟩)
  eq := fun es h xs ys hx hy x y w => by
    cases h
    exact eq_of (m := 2) (by decide) rfl (by kernel_rfl) ty56_eq xs ys hx hy x y w
@[reducible] def ty70 : TI := ⟨4, 32, [.int .i64 0, .int .i64 0, .int .i64 0, .int .i64 0], .st [(0, 56), (2, 56)], some [.int .i64, .int .i64, .int .i64, .int .i64]⟩
theorem ty70_eq : EqOK Try.prog ty70 70 [.int .i64, .int .i64, .int .i64, .int .i64] 3 := eq_struct (fs := Try.prog.fieldsOf 70) (by kernel_rfl) (by kernel_rfl) rfl (.of (show (Try.prog.fieldsOf 70).toList = [(Try.prog.fieldsOf 70).getD 0 default, (Try.prog.fieldsOf 70).getD 1 default] by kernel_rfl) (.c (f := (Try.prog.fieldsOf 70).getD 0 default) (by kernel_rfl) (by kernel_rfl) (by kernel_rfl) ty56_ok ty56_eq rfl (.inl rfl) (.c (f := (Try.prog.fieldsOf 70).getD 1 default) (by kernel_rfl) (by kernel_rfl) (by kernel_rfl) ty56_ok ty56_eq rfl (.inl rfl) (.nil _))))
theorem ty70_ok : TIok Try.prog 70 ty70 where
  info := ⟨Try.types.getD 70 default, .agg #[.int .i64 0, .int .i64 0, .int .i64 0, .int .i64 0], by kernel_rfl, by kernel_rfl, by kernel_rfl, by kernel_rfl, rfl, rfl, rfl⟩
  kd := (show ∃ fields, Try.prog.underlying 70 = some (.struct fields) ∧ fields.toList.map (fun f => (f.offset, f.type)) = [(0, 56), (2, 56)] from ⟨Try.prog.fieldsOf 70, by kernel_rfl, by kernel_rfl⟩)
  eq := fun es h xs ys hx hy x y w => by
    cases h
    exact eq_of (m := 3) (by decide) rfl (by kernel_rfl) ty70_eq xs ys hx hy x y w
@[reducible] def ty38 : TI := ⟨1, 24, [.slice none 0 0], .sl 70, none⟩
theorem ty38_ok : TIok Try.prog 38 ty38 where
  info := ⟨Try.types.getD 38 default, .slice none 0 0, by kernel_rfl, by kernel_rfl, by kernel_rfl, by kernel_rfl, rfl, rfl, rfl⟩
  kd := (show Try.prog.underlying 38 = some (.slice 70) from by kernel_rfl)
  eq := fun es h => by cases h
@[reducible] def ty39 : TI := ⟨1, 24, [.slice none 0 0], .sl 3, none⟩
theorem ty39_ok : TIok Try.prog 39 ty39 where
  info := ⟨Try.types.getD 39 default, .slice none 0 0, by kernel_rfl, by kernel_rfl, by kernel_rfl, by kernel_rfl, rfl, rfl, rfl⟩
  kd := (show Try.prog.underlying 39 = some (.slice 3) from by kernel_rfl)
  eq := fun es h => by cases h
@[reducible] def ty41 : TI := ⟨1, 8, [.nilFunc], .sc, none⟩
theorem ty41_ok : TIok Try.prog 41 ty41 where
  info := ⟨Try.types.getD 41 default, .nilFunc, by kernel_rfl, by kernel_rfl, by kernel_rfl, by kernel_rfl, rfl, rfl, rfl⟩
  kd := (show ∃ d, Try.prog.underlying 41 = some d ∧ scD d = true from ⟨(Try.prog.underlying 41).getD .bool, by kernel_rfl, by kernel_rfl⟩)
  eq := fun es h => by cases h
@[reducible] def ty42 : TI := ⟨1, 24, [.slice none 0 0], .sl 38, none⟩
theorem ty42_ok : TIok Try.prog 42 ty42 where
  info := ⟨Try.types.getD 42 default, .slice none 0 0, by kernel_rfl, by kernel_rfl, by kernel_rfl, by kernel_rfl, rfl, rfl, rfl⟩
  kd := (show Try.prog.underlying 42 = some (.slice 38) from by kernel_rfl)
  eq := fun es h => by cases h
@[reducible] def ty43 : TI := ⟨1, 8, [.nilFunc], .sc, none⟩
theorem ty43_ok : TIok Try.prog 43 ty43 where
  info := ⟨Try.types.getD 43 default, .nilFunc, by kernel_rfl, by kernel_rfl, by kernel_rfl, by kernel_rfl, rfl, rfl, rfl⟩
  kd := (show ∃ d, Try.prog.underlying 43 = some d ∧ scD d = true from ⟨(Try.prog.underlying 43).getD .bool, by kernel_rfl, by kernel_rfl⟩)
  eq := fun es h => by cases h
@[reducible] def ty44 : TI := ⟨1, 8, [.nilFunc], .sc, none⟩
theorem ty44_ok : TIok Try.prog 44 ty44 where
  info := ⟨Try.types.getD 44 default, .nilFunc, by kernel_rfl, by kernel_rfl, by kernel_rfl, by kernel_rfl, rfl, rfl, rfl⟩
  kd := (show ∃ d, Try.prog.underlying 44 = some d ∧ scD d = true from ⟨(Try.prog.underlying 44).getD .bool, by kernel_rfl, by kernel_rfl⟩)
  eq := fun es h => by cases h
@[reducible] def ty45 : TI := ⟨6, 48, [.int .i64 0, .int .i64 0, .int .i64 0, .int .i64 0, .int .i64 0, .int .i64 0], .st [(0, 3), (1, 3), (2, 3), (3, 3), (4, 3), (5, 3)], some [.int .i64, .int .i64, .int .i64, .int .i64, .int .i64, .int .i64]⟩
theorem ty45_eq : EqOK Try.prog ty45 45 [.int .i64, .int .i64, .int .i64, .int .i64, .int .i64, .int .i64] 2 := eq_struct (fs := Try.prog.fieldsOf 45) (by kernel_rfl) (by kernel_rfl) rfl (.of (show (Try.prog.fieldsOf 45).toList = [(Try.prog.fieldsOf 45).getD 0 default, (Try.prog.fieldsOf 45).getD 1 default, (Try.prog.fieldsOf 45).getD 2 default, (Try.prog.fieldsOf 45).getD 3 default, (Try.prog.fieldsOf 45).getD 4 default, (Try.prog.fieldsOf 45).getD 5 default] by kernel_rfl) (.c (f := (Try.prog.fieldsOf 45).getD 0 default) (by kernel_rfl) (by kernel_rfl) (by kernel_rfl) ty3_ok ty3_eq rfl (.inr rfl) (.c (f := (Try.prog.fieldsOf 45).getD 1 default) (by kernel_rfl) (by kernel_rfl) (by kernel_rfl) ty3_ok ty3_eq rfl (.inr rfl) (.c (f := (Try.prog.fieldsOf 45).getD 2 default) (by kernel_rfl) (by kernel_rfl) (by kernel_rfl) ty3_ok ty3_eq rfl (.inr rfl) (.c (f := (Try.prog.fieldsOf 45).getD 3 default) (by kernel_rfl) (by kernel_rfl) (by kernel_rfl) ty3_ok ty3_eq rfl (.inr rfl) (.c (f := (Try.prog.fieldsOf 45).getD 4 default) (by kernel_rfl) (by kernel_rfl) (by kernel_rfl) ty3_ok ty3_eq rfl (.inr rfl) (.c (f := (Try.prog.fieldsOf 45).getD 5 default) (by kernel_rfl) (by kernel_rfl) (by kernel_rfl) ty3_ok ty3_eq rfl (.inr rfl) (.nil _))))))))
theorem ty45_ok : TIok Try.prog 45 ty45 where
  info := ⟨Try.types.getD 45 default, .agg #[.int .i64 0, .int .i64 0, .int .i64 0, .int .i64 0, .int .i64 0, .int .i64 0], by kernel_rfl, by kernel_rfl, by kernel_rfl, by kernel_rfl, rfl, rfl, rfl⟩
  kd := (show ∃ fields, Try.prog.underlying 45 = some (.struct fields) ∧ fields.toList.map (fun f => (f.offset, f.type)) = [(0, 3), (1, 3), (2, 3), (3, 3), (4, 3), (5, 3)] from ⟨Try.prog.fieldsOf 45, by kernel_rfl, by kernel_rfl⟩)
  eq := fun es h xs ys hx hy x y w => by
    cases h
    exact eq_of (m := 2) (by decide) rfl (by kernel_rfl) ty45_eq xs ys hx hy x y w
@[reducible] def ty46 : TI := ⟨6, 48, [.int .i64 0, .int .i64 0, .int .i64 0, .int .i64 0, .int .i64 0, .int .i64 0], .st [(0, 3), (1, 3), (2, 3), (3, 3), (4, 3), (5, 3)], some [.int .i64, .int .i64, .int .i64, .int .i64, .int .i64, .int .i64]⟩
theorem ty46_eq : EqOK Try.prog ty46 46 [.int .i64, .int .i64, .int .i64, .int .i64, .int .i64, .int .i64] 2 := eq_struct (fs := Try.prog.fieldsOf 46) (by kernel_rfl) (by kernel_rfl) rfl (.of (show (Try.prog.fieldsOf 46).toList = [(Try.prog.fieldsOf 46).getD 0 default, (Try.prog.fieldsOf 46).getD 1 default, (Try.prog.fieldsOf 46).getD 2 default, (Try.prog.fieldsOf 46).getD 3 default, (Try.prog.fieldsOf 46).getD 4 default, (Try.prog.fieldsOf 46).getD 5 default] by kernel_rfl) (.c (f := (Try.prog.fieldsOf 46).getD 0 default) (by kernel_rfl) (by kernel_rfl) (by kernel_rfl) ty3_ok ty3_eq rfl (.inr rfl) (.c (f := (Try.prog.fieldsOf 46).getD 1 default) (by kernel_rfl) (by kernel_rfl) (by kernel_rfl) ty3_ok ty3_eq rfl (.inr rfl) (.c (f := (Try.prog.fieldsOf 46).getD 2 default) (by kernel_rfl) (by kernel_rfl) (by kernel_rfl) ty3_ok ty3_eq rfl (.inr rfl) (.c (f := (Try.prog.fieldsOf 46).getD 3 default) (by kernel_rfl) (by kernel_rfl) (by kernel_rfl) ty3_ok ty3_eq rfl (.inr rfl) (.c (f := (Try.prog.fieldsOf 46).getD 4 default) (by kernel_rfl) (by kernel_rfl) (by kernel_rfl) ty3_ok ty3_eq rfl (.inr rfl) (.c (f := (Try.prog.fieldsOf 46).getD 5 default) (by kernel_rfl) (by kernel_rfl) (by kernel_rfl) ty3_ok ty3_eq rfl (.inr rfl) (.nil _))))))))
theorem ty46_ok : TIok Try.prog 46 ty46 where
  info := ⟨Try.types.getD 46 default, .agg #[.int .i64 0, .int .i64 0, .int .i64 0, .int .i64 0, .int .i64 0, .int .i64 0], by kernel_rfl, by kernel_rfl, by kernel_rfl, by kernel_rfl, rfl, rfl, rfl⟩
  kd := (show ∃ fields, Try.prog.underlying 46 = some (.struct fields) ∧ fields.toList.map (fun f => (f.offset, f.type)) = [(0, 3), (1, 3), (2, 3), (3, 3), (4, 3), (5, 3)] from ⟨Try.prog.fieldsOf 46, by kernel_rfl, by kernel_rfl⟩)
  eq := fun es h xs ys hx hy x y w => by
    cases h
    exact eq_of (m := 2) (by decide) rfl (by kernel_rfl) ty46_eq xs ys hx hy x y w
@[reducible] def ty47 : TI := ⟨1, 8, [.nilFunc], .sc, none⟩
theorem ty47_ok : TIok Try.prog 47 ty47 where
  info := ⟨Try.types.getD 47 default, .nilFunc, by kernel_rfl, by kernel_rfl, by kernel_rfl, by kernel_rfl, rfl, rfl, rfl⟩
  kd := (show ∃ d, Try.prog.underlying 47 = some d ∧ scD d = true from ⟨(Try.prog.underlying 47).getD .bool, by kernel_rfl, by kernel_rfl⟩)
  eq := fun es h => by cases h
@[reducible] def ty49 : TI := ⟨1, 8, [.nilFunc], .sc, none⟩
theorem ty49_ok : TIok Try.prog 49 ty49 where
  info := ⟨Try.types.getD 49 default, .nilFunc, by kernel_rfl, by kernel_rfl, by kernel_rfl, by kernel_rfl, rfl, rfl, rfl⟩
  kd := (show ∃ d, Try.prog.underlying 49 = some d ∧ scD d = true from ⟨(Try.prog.underlying 49).getD .bool, by kernel_rfl, by kernel_rfl⟩)
  eq := fun es h => by cases h
@[reducible] def ty50 : TI := ⟨1, 8, [.nilFunc], .sc, none⟩
theorem ty50_ok : TIok Try.prog 50 ty50 where
  info := ⟨Try.types.getD 50 default, .nilFunc, by kernel_rfl, by kernel_rfl, by kernel_rfl, by kernel_rfl, rfl, rfl, rfl⟩
  kd := (show ∃ d, Try.prog.underlying 50 = some d ∧ scD d = true from ⟨(Try.prog.underlying 50).getD .bool, by kernel_rfl, by kernel_rfl⟩)
  eq := fun es h => by cases h
@[reducible] def ty51 : TI := ⟨1, 8, [.nilFunc], .sc, none⟩
theorem ty51_ok : TIok Try.prog 51 ty51 where
  info := ⟨Try.types.getD 51 default, .nilFunc, by kernel_rfl, by kernel_rfl, by kernel_rfl, by kernel_rfl, rfl, rfl, rfl⟩
  kd := (show ∃ d, Try.prog.underlying 51 = some d ∧ scD d = true from ⟨(Try.prog.underlying 51).getD .bool, by kernel_rfl, by kernel_rfl⟩)
  eq := fun es h => by cases h
@[reducible] def ty52 : TI := ⟨1, 8, [.nilFunc], .sc, none⟩
theorem ty52_ok : TIok Try.prog 52 ty52 where
  info := ⟨Try.types.getD 52 default, .nilFunc, by kernel_rfl, by kernel_rfl, by kernel_rfl, by kernel_rfl, rfl, rfl, rfl⟩
  kd := (show ∃ d, Try.prog.underlying 52 = some d ∧ scD d = true from ⟨(Try.prog.underlying 52).getD .bool, by kernel_rfl, by kernel_rfl⟩)
  eq := fun es h => by cases h
@[reducible] def ty53 : TI := ⟨1, 8, [.nilFunc], .sc, none⟩
theorem ty53_ok : TIok Try.prog 53 ty53 where
  info := ⟨Try.types.getD 53 default, .nilFunc, by kernel_rfl, by kernel_rfl, by kernel_rfl, by kernel_rfl, rfl, rfl, rfl⟩
  kd := (show ∃ d, Try.prog.underlying 53 = some d ∧ scD d = true from ⟨(Try.prog.underlying 53).getD .bool, by kernel_rfl, by kernel_rfl⟩)
  eq := fun es h => by cases h
@[reducible] def ty54 : TI := ⟨1, 8, [.nilFunc], .sc, none⟩
theorem ty54_ok : TIok Try.prog 54 ty54 where
  info := ⟨Try.types.getD 54 default, .nilFunc, by kernel_rfl, by kernel_rfl, by kernel_rfl, by kernel_rfl, rfl, rfl, rfl⟩
  kd := (show ∃ d, Try.prog.underlying 54 = some d ∧ scD d = true from ⟨(Try.prog.underlying 54).getD .bool, by kernel_rfl, by kernel_rfl⟩)
  eq := fun es h => by cases h
@[reducible] def ty55 : TI := ⟨2, 16, [.int .i64 0, .int .i64 0], .st [(0, 3), (1, 3)], some [.int .i64, .int .i64]⟩
theorem ty55_eq : EqOK Try.prog ty55 55 [.int .i64, .int .i64] 2 := eq_struct (fs := Try.prog.fieldsOf 55) (by kernel_rfl) (by kernel_rfl) rfl (.of (show (Try.prog.fieldsOf 55).toList = [(Try.prog.fieldsOf 55).getD 0 default, (Try.prog.fieldsOf 55).getD 1 default] by kernel_rfl) (.c (f := (Try.prog.fieldsOf 55).getD 0 default) (by kernel_rfl) (by kernel_rfl) (by kernel_rfl) ty3_ok ty3_eq rfl (.inr rfl) (.c (f := (Try.prog.fieldsOf 55).getD 1 default) (by kernel_rfl) (by kernel_rfl) (by kernel_rfl) ty3_ok ty3_eq rfl (.inr rfl) (.nil _))))
theorem ty55_ok : TIok Try.prog 55 ty55 where
  info := ⟨Try.types.getD 55 default, .agg #[.int .i64 0, .int .i64 0], by kernel_rfl, by kernel_rfl, by kernel_rfl, by kernel_rfl, rfl, rfl, rfl⟩
  kd := (show ∃ fields, Try.prog.underlying 55 = some (.struct fields) ∧ fields.toList.map (fun f => (f.offset, f.type)) = [(0, 3), (1, 3)] from ⟨Try.prog.fieldsOf 55, by kernel_rfl, by kernel_rfl⟩)
  eq := fun es h xs ys hx hy x y w => by
    cases h
    exact eq_of (m := 2) (by decide) rfl (by kernel_rfl) ty55_eq xs ys hx hy x y w
@[reducible] def ty57 : TI := ⟨1, 8, [.nilFunc], .sc, none⟩
theorem ty57_ok : TIok Try.prog 57 ty57 where
  info := ⟨Try.types.getD 57 default, .nilFunc, by kernel_rfl, by kernel_rfl, by kernel_rfl, by kernel_rfl, rfl, rfl, rfl⟩
  kd := (show ∃ d, Try.prog.underlying 57 = some d ∧ scD d = true from ⟨(Try.prog.underlying 57).getD .bool, by kernel_rfl, by kernel_rfl⟩)
  eq := fun es h => by cases h
@[reducible] def ty58 : TI := ⟨2, 16, [.int .i64 0, .int .i64 0], .st [(0, 3), (1, 3)], some [.int .i64, .int .i64]⟩
theorem ty58_eq : EqOK Try.prog ty58 58 [.int .i64, .int .i64] 2 := eq_struct (fs := Try.prog.fieldsOf 58) (by kernel_rfl) (by kernel_rfl) rfl (.of (show (Try.prog.fieldsOf 58).toList = [(Try.prog.fieldsOf 58).getD 0 default, (Try.prog.fieldsOf 58).getD 1 default] by kernel_rfl) (.c (f := (Try.prog.fieldsOf 58).getD 0 default) (by kernel_rfl) (by kernel_rfl) (by kernel_rfl) ty3_ok ty3_eq rfl (.inr rfl) (.c (f := (Try.prog.fieldsOf 58).getD 1 default) (by kernel_rfl) (by kernel_rfl) (by kernel_rfl) ty3_ok ty3_eq rfl (.inr rfl) (.nil _))))
theorem ty58_ok : TIok Try.prog 58 ty58 where
  info := ⟨Try.types.getD 58 default, .agg #[.int .i64 0, .int .i64 0], by kernel_rfl, by kernel_rfl, by kernel_rfl, by kernel_rfl, rfl, rfl, rfl⟩
  kd := (show ∃ fields, Try.prog.underlying 58 = some (.struct fields) ∧ fields.toList.map (fun f => (f.offset, f.type)) = [(0, 3), (1, 3)] from ⟨Try.prog.fieldsOf 58, by kernel_rfl, by kernel_rfl⟩)
  eq := fun es h xs ys hx hy x y w => by
    cases h
    exact eq_of (m := 2) (by decide) rfl (by kernel_rfl) ty58_eq xs ys hx hy x y w
@[reducible] def ty59 : TI := ⟨2, 16, [.int .i64 0, .int .i64 0], .st [(0, 3), (1, 3)], some [.int .i64, .int .i64]⟩
theorem ty59_eq : EqOK Try.prog ty59 59 [.int .i64, .int .i64] 2 := eq_struct (fs := Try.prog.fieldsOf 59) (by kernel_rfl) (by kernel_rfl) rfl (.of (show (Try.prog.fieldsOf 59).toList = [(Try.prog.fieldsOf 59).getD 0 default, (Try.prog.fieldsOf 59).getD 1 default] by kernel_rfl) (.c (f := (Try.prog.fieldsOf 59).getD 0 default) (by kernel_rfl) (by kernel_rfl) (by kernel_rfl) ty3_ok ty3_eq rfl (.inr rfl) (.c (f := (Try.prog.fieldsOf 59).getD 1 default) (by kernel_rfl) (by kernel_rfl) (by kernel_rfl) ty3_ok ty3_eq rfl (.inr rfl) (.nil _))))
theorem ty59_ok : TIok Try.prog 59 ty59 where
  info := ⟨Try.types.getD 59 default, .agg #[.int .i64 0, .int .i64 0], by kernel_rfl, by kernel_rfl, by kernel_rfl, by kernel_rfl, rfl, rfl, rfl⟩
  kd := (show ∃ fields, Try.prog.underlying 59 = some (.struct fields) ∧ fields.toList.map (fun f => (f.offset, f.type)) = [(0, 3), (1, 3)] from ⟨Try.prog.fieldsOf 59, by kernel_rfl, by kernel_rfl⟩)
  eq := fun es h xs ys hx hy x y w => by
    cases h
    exact eq_of (m := 2) (by decide) rfl (by kernel_rfl) ty59_eq xs ys hx hy x y w
@[reducible] def ty61 : TI := ⟨1, 8, [.nilFunc], .sc, none⟩
theorem ty61_ok : TIok Try.prog 61 ty61 where
  info := ⟨Try.types.getD 61 default, .nilFunc, by kernel_rfl, by kernel_rfl, by kernel_rfl, by kernel_rfl, rfl, rfl, rfl⟩
  kd := (show ∃ d, Try.prog.underlying 61 = some d ∧ scD d = true from ⟨(Try.prog.underlying 61).getD .bool, by kernel_rfl, by kernel_rfl⟩)
  eq := fun es h => by cases h
@[reducible] def ty62 : TI := ⟨1, 8, [.nilFunc], .sc, none⟩
theorem ty62_ok : TIok Try.prog 62 ty62 where
  info := ⟨Try.types.getD 62 default, .nilFunc, by kernel_rfl, by kernel_rfl, by kernel_rfl, by kernel_rfl, rfl, rfl, rfl⟩
  kd := (show ∃ d, Try.prog.underlying 62 = some d ∧ scD d = true from ⟨(Try.prog.underlying 62).getD .bool, by kernel_rfl, by kernel_rfl⟩)
  eq := fun es h => by cases h
@[reducible] def ty63 : TI := ⟨1, 8, [.nilFunc], .sc, none⟩
theorem ty63_ok : TIok Try.prog 63 ty63 where
  info := ⟨Try.types.getD 63 default, .nilFunc, by kernel_rfl, by kernel_rfl, by kernel_rfl, by kernel_rfl, rfl, rfl, rfl⟩
  kd := (show ∃ d, Try.prog.underlying 63 = some d ∧ scD d = true from ⟨(Try.prog.underlying 63).getD .bool, by kernel_rfl, by kernel_rfl⟩)
  eq := fun es h => by cases h
@[reducible] def ty64 : TI := ⟨1, 8, [.nilFunc], .sc, none⟩
theorem ty64_ok : TIok Try.prog 64 ty64 where
  info := ⟨Try.types.getD 64 default, .nilFunc, by kernel_rfl, by kernel_rfl, by kernel_rfl, by kernel_rfl, rfl, rfl, rfl⟩
  kd := (show ∃ d, Try.prog.underlying 64 = some d ∧ scD d = true from ⟨(Try.prog.underlying 64).getD .bool, by kernel_rfl, by kernel_rfl⟩)
  eq := fun es h => by cases h
@[reducible] def ty65 : TI := ⟨1, 8, [.nilFunc], .sc, none⟩
theorem ty65_ok : TIok Try.prog 65 ty65 where
  info := ⟨Try.types.getD 65 default, .nilFunc, by kernel_rfl, by kernel_rfl, by kernel_rfl, by kernel_rfl, rfl, rfl, rfl⟩
  kd := (show ∃ d, Try.prog.underlying 65 = some d ∧ scD d = true from ⟨(Try.prog.underlying 65).getD .bool, by kernel_rfl, by kernel_rfl⟩)
  eq := fun es h => by cases h
@[reducible] def ty66 : TI := ⟨1, 8, [.nilFunc], .sc, none⟩
theorem ty66_ok : TIok Try.prog 66 ty66 where
  info := ⟨Try.types.getD 66 default, .nilFunc, by kernel_rfl, by kernel_rfl, by kernel_rfl, by kernel_rfl, rfl, rfl, rfl⟩
  kd := (show ∃ d, Try.prog.underlying 66 = some d ∧ scD d = true from ⟨(Try.prog.underlying 66).getD .bool, by kernel_rfl, by kernel_rfl⟩)
  eq := fun es h => by cases h
@[reducible] def ty67 : TI := ⟨1, 8, [.nilFunc], .sc, none⟩
theorem ty67_ok : TIok Try.prog 67 ty67 where
  info := ⟨Try.types.getD 67 default, .nilFunc, by kernel_rfl, by kernel_rfl, by kernel_rfl, by kernel_rfl, rfl, rfl, rfl⟩
  kd := (show ∃ d, Try.prog.underlying 67 = some d ∧ scD d = true from ⟨(Try.prog.underlying 67).getD .bool, by kernel_rfl, by kernel_rfl⟩)
  eq := fun es h => by cases h
@[reducible] def ty68 : TI := ⟨1, 8, [.nilFunc], .sc, none⟩
theorem ty68_ok : TIok Try.prog 68 ty68 where
  info := ⟨Try.types.getD 68 default, .nilFunc, by kernel_rfl, by kernel_rfl, by kernel_rfl, by kernel_rfl, rfl, rfl, rfl⟩
  kd := (show ∃ d, Try.prog.underlying 68 = some d ∧ scD d = true from ⟨(Try.prog.underlying 68).getD .bool, by kernel_rfl, by kernel_rfl⟩)
  eq := fun es h => by cases h
@[reducible] def ty69 : TI := ⟨4, 32, [.int .i64 0, .int .i64 0, .int .i64 0, .int .i64 0], .st [(0, 56), (2, 56)], some [.int .i64, .int .i64, .int .i64, .int .i64]⟩
theorem ty69_eq : EqOK Try.prog ty69 69 [.int .i64, .int .i64, .int .i64, .int .i64] 3 := eq_struct (fs := Try.prog.fieldsOf 69) (by kernel_rfl) (by kernel_rfl) rfl (.of (show (Try.prog.fieldsOf 69).toList = [(Try.prog.fieldsOf 69).getD 0 default, (Try.prog.fieldsOf 69).getD 1 default] by kernel_rfl) (.c (f := (Try.prog.fieldsOf 69).getD 0 default) (by kernel_rfl) (by kernel_rfl) (by kernel_rfl) ty56_ok ty56_eq rfl (.inl rfl) (.c (f := (Try.prog.fieldsOf 69).getD 1 default) (by kernel_rfl) (by kernel_rfl) (by kernel_rfl) ty56_ok ty56_eq rfl (.inl rfl) (.nil _))))
theorem ty69_ok : TIok Try.prog 69 ty69 where
  info := ⟨Try.types.getD 69 default, .agg #[.int .i64 0, .int .i64 0, .int .i64 0, .int .i64 0], by kernel_rfl, by kernel_rfl, by kernel_rfl, by kernel_rfl, rfl, rfl, rfl⟩
  kd := (show ∃ fields, Try.prog.underlying 69 = some (.struct fields) ∧ fields.toList.map (fun f => (f.offset, f.type)) = [(0, 56), (2, 56)] from ⟨Try.prog.fieldsOf 69, by kernel_rfl, by kernel_rfl⟩)
  eq := fun es h xs ys hx hy x y w => by
    cases h
    exact eq_of (m := 3) (by decide) rfl (by kernel_rfl) ty69_eq xs ys hx hy x y w
@[reducible] def ty71 : TI := ⟨1, 8, [.nilFunc], .sc, none⟩
theorem ty71_ok : TIok Try.prog 71 ty71 where
  info := ⟨Try.types.getD 71 default, .nilFunc, by kernel_rfl, by kernel_rfl, by kernel_rfl, by kernel_rfl, rfl, rfl, rfl⟩
  kd := (show ∃ d, Try.prog.underlying 71 = some d ∧ scD d = true from ⟨(Try.prog.underlying 71).getD .bool, by kernel_rfl, by kernel_rfl⟩)
  eq := fun es h => by cases h
@[reducible] def ty106 : TI := ⟨7, 56, [.int .i64 0, .int .i64 0, .int .i64 0, .int .i64 0, .int .i64 0, .int .i64 0, .bool false], .st [(0, 56), (2, 56), (4, 56), (6, 4)], some [.int .i64, .int .i64, .int .i64, .int .i64, .int .i64, .int .i64, .bool]⟩
theorem ty106_eq : EqOK Try.prog ty106 106 [.int .i64, .int .i64, .int .i64, .int .i64, .int .i64, .int .i64, .bool] 3 := eq_struct (fs := Try.prog.fieldsOf 106) (by kernel_rfl) (by kernel_rfl) rfl (.of (show (Try.prog.fieldsOf 106).toList = [(Try.prog.fieldsOf 106).getD 0 default, (Try.prog.fieldsOf 106).getD 1 default, (Try.prog.fieldsOf 106).getD 2 default, (Try.prog.fieldsOf 106).getD 3 default] by kernel_rfl) (.c (f := (Try.prog.fieldsOf 106).getD 0 default) (by kernel_rfl) (by kernel_rfl) (by kernel_rfl) ty56_ok ty56_eq rfl (.inl rfl) (.c (f := (Try.prog.fieldsOf 106).getD 1 default) (by kernel_rfl) (by kernel_rfl) (by kernel_rfl) ty56_ok ty56_eq rfl (.inl rfl) (.c (f := (Try.prog.fieldsOf 106).getD 2 default) (by kernel_rfl) (by kernel_rfl) (by kernel_rfl) ty56_ok ty56_eq rfl (.inl rfl) (.c (f := (Try.prog.fieldsOf 106).getD 3 default) (by kernel_rfl) (by kernel_rfl) (by kernel_rfl) ty4_ok ty4_eq.up rfl (.inr rfl) (.nil _))))))
theorem ty106_ok : TIok Try.prog 106 ty106 where
  info := ⟨Try.types.getD 106 default, .agg #[.int .i64 0, .int .i64 0, .int .i64 0, .int .i64 0, .int .i64 0, .int .i64 0, .bool false], by kernel_rfl, by kernel_rfl, by kernel_rfl, by kernel_rfl, rfl, rfl, rfl⟩
  kd := (show ∃ fields, Try.prog.underlying 106 = some (.struct fields) ∧ fields.toList.map (fun f => (f.offset, f.type)) = [(0, 56), (2, 56), (4, 56), (6, 4)] from ⟨Try.prog.fieldsOf 106, by kernel_rfl, by kernel_rfl⟩)
  eq := fun es h xs ys hx hy x y w => by
    cases h
    exact eq_of (m := 3) (by decide) rfl (by kernel_rfl) ty106_eq xs ys hx hy x y w
@[reducible] def ty79 : TI := ⟨1, 24, [.slice none 0 0], .sl 106, none⟩
theorem ty79_ok : TIok Try.prog 79 ty79 where
  info := ⟨Try.types.getD 79 default, .slice none 0 0, by kernel_rfl, by kernel_rfl, by kernel_rfl, by kernel_rfl, rfl, rfl, rfl⟩
  kd := (show Try.prog.underlying 79 = some (.slice 106) from by kernel_rfl)
  eq := fun es h => by cases h
@[reducible] def ty73 : TI := ⟨1, 24, [.slice none 0 0], .sl 79, none⟩
theorem ty73_ok : TIok Try.prog 73 ty73 where
  info := ⟨Try.types.getD 73 default, .slice none 0 0, by kernel_rfl, by kernel_rfl, by kernel_rfl, by kernel_rfl, rfl, rfl, rfl⟩
  kd := (show Try.prog.underlying 73 = some (.slice 79) from by kernel_rfl)
  eq := fun es h => by cases h
@[reducible] def ty74 : TI := ⟨1, 8, [.nilFunc], .sc, none⟩
theorem ty74_ok : TIok Try.prog 74 ty74 where
  info := ⟨Try.types.getD 74 default, .nilFunc, by kernel_rfl, by kernel_rfl, by kernel_rfl, by kernel_rfl, rfl, rfl, rfl⟩
  kd := (show ∃ d, Try.prog.underlying 74 = some d ∧ scD d = true from ⟨(Try.prog.underlying 74).getD .bool, by kernel_rfl, by kernel_rfl⟩)
  eq := fun es h => by cases h
@[reducible] def ty103 : TI := ⟨3, 24, [.int .i64 0, .int .i64 0, .bool false], .st [(0, 3), (1, 3), (2, 4)], some [.int .i64, .int .i64, .bool]⟩
theorem ty103_eq : EqOK Try.prog ty103 103 [.int .i64, .int .i64, .bool] 2 := eq_struct (fs := Try.prog.fieldsOf 103) (by kernel_rfl) (by kernel_rfl) rfl (.of (show (Try.prog.fieldsOf 103).toList = [(Try.prog.fieldsOf 103).getD 0 default, (Try.prog.fieldsOf 103).getD 1 default, (Try.prog.fieldsOf 103).getD 2 default] by kernel_rfl) (.c (f := (Try.prog.fieldsOf 103).getD 0 default) (by kernel_rfl) (by kernel_rfl) (by kernel_rfl) ty3_ok ty3_eq rfl (.inr rfl) (.c (f := (Try.prog.fieldsOf 103).getD 1 default) (by kernel_rfl) (by kernel_rfl) (by kernel_rfl) ty3_ok ty3_eq rfl (.inr rfl) (.c (f := (Try.prog.fieldsOf 103).getD 2 default) (by kernel_rfl) (by kernel_rfl) (by kernel_rfl) ty4_ok ty4_eq rfl (.inr rfl) (.nil _)))))
theorem ty103_ok : TIok Try.prog 103 ty103 where
  info := ⟨Try.types.getD 103 default, .agg #[.int .i64 0, .int .i64 0, .bool false], by kernel_rfl, by kernel_rfl, by kernel_rfl, by kernel_rfl, rfl, rfl, rfl⟩
  kd := (show ∃ fields, Try.prog.underlying 103 = some (.struct fields) ∧ fields.toList.map (fun f => (f.offset, f.type)) = [(0, 3), (1, 3), (2, 4)] from ⟨Try.prog.fieldsOf 103, by kernel_rfl, by kernel_rfl⟩)
  eq := fun es h xs ys hx hy x y w => by
    cases h
    exact eq_of (m := 2) (by decide) rfl (by kernel_rfl) ty103_eq xs ys hx hy x y w
@[reducible] def ty97 : TI := ⟨1, 24, [.slice none 0 0], .sl 103, none⟩
theorem ty97_ok : TIok Try.prog 97 ty97 where
  info := ⟨Try.types.getD 97 default, .slice none 0 0, by kernel_rfl, by kernel_rfl, by kernel_rfl, by kernel_rfl, rfl, rfl, rfl⟩
  kd := (show Try.prog.underlying 97 = some (.slice 103) from by kernel_rfl)
  eq := fun es h => by cases h
@[reducible] def ty75 : TI := ⟨1, 24, [.slice none 0 0], .sl 97, none⟩
theorem ty75_ok : TIok Try.prog 75 ty75 where
  info := ⟨Try.types.getD 75 default, .slice none 0 0, by kernel_rfl, by kernel_rfl, by kernel_rfl, by kernel_rfl, rfl, rfl, rfl⟩
  kd := (show Try.prog.underlying 75 = some (.slice 97) from by kernel_rfl)
  eq := fun es h => by cases h
@[reducible] def ty76 : TI := ⟨1, 24, [.slice none 0 0], .st [(0, 75)], none⟩
theorem ty76_ok : TIok Try.prog 76 ty76 where
  info := ⟨Try.types.getD 76 default, .agg #[.slice none 0 0], by kernel_rfl, by kernel_rfl, by kernel_rfl, by kernel_rfl, rfl, rfl, rfl⟩
  kd := (show ∃ fields, Try.prog.underlying 76 = some (.struct fields) ∧ fields.toList.map (fun f => (f.offset, f.type)) = [(0, 75)] from ⟨Try.prog.fieldsOf 76, by kernel_rfl, by kernel_rfl⟩)
  eq := fun es h => by cases h
@[reducible] def ty77 : TI := ⟨1, 24, [.slice none 0 0], .st [(0, 75)], none⟩
theorem ty77_ok : TIok Try.prog 77 ty77 where
  info := ⟨Try.types.getD 77 default, .agg #[.slice none 0 0], by kernel_rfl, by kernel_rfl, by kernel_rfl, by kernel_rfl, rfl, rfl, rfl⟩
  kd := (show ∃ fields, Try.prog.underlying 77 = some (.struct fields) ∧ fields.toList.map (fun f => (f.offset, f.type)) = [(0, 75)] from ⟨Try.prog.fieldsOf 77, by kernel_rfl, by kernel_rfl⟩)
  eq := fun es h => by cases h
@[reducible] def ty78 : TI := ⟨1, 8, [.nilFunc], .sc, none⟩
theorem ty78_ok : TIok Try.prog 78 ty78 where
  info := ⟨Try.types.getD 78 default, .nilFunc, by kernel_rfl, by kernel_rfl, by kernel_rfl, by kernel_rfl, rfl, rfl, rfl⟩
  kd := (show ∃ d, Try.prog.underlying 78 = some d ∧ scD d = true from ⟨(Try.prog.underlying 78).getD .bool, by kernel_rfl, by kernel_rfl⟩)
  eq := fun es h => by cases h
@[reducible] def ty80 : TI := ⟨1, 8, [.nilFunc], .sc, none⟩
theorem ty80_ok : TIok Try.prog 80 ty80 where
  info := ⟨Try.types.getD 80 default, .nilFunc, by kernel_rfl, by kernel_rfl, by kernel_rfl, by kernel_rfl, rfl, rfl, rfl⟩
  kd := (show ∃ d, Try.prog.underlying 80 = some d ∧ scD d = true from ⟨(Try.prog.underlying 80).getD .bool, by kernel_rfl, by kernel_rfl⟩)
  eq := fun es h => by cases h
@[reducible] def ty81 : TI := ⟨1, 8, [.nilFunc], .sc, none⟩
theorem ty81_ok : TIok Try.prog 81 ty81 where
  info := ⟨Try.types.getD 81 default, .nilFunc, by kernel_rfl, by kernel_rfl, by kernel_rfl, by kernel_rfl, rfl, rfl, rfl⟩
  kd := (show ∃ d, Try.prog.underlying 81 = some d ∧ scD d = true from ⟨(Try.prog.underlying 81).getD .bool, by kernel_rfl, by kernel_rfl⟩)
  eq := fun es h => by cases h
@[reducible] def ty82 : TI := ⟨1, 8, [.nilFunc], .sc, none⟩
theorem ty82_ok : TIok Try.prog 82 ty82 where
  info := ⟨Try.types.getD 82 default, .nilFunc, by kernel_rfl, by kernel_rfl, by kernel_rfl, by kernel_rfl, rfl, rfl, rfl⟩
  kd := (show ∃ d, Try.prog.underlying 82 = some d ∧ scD d = true from ⟨(Try.prog.underlying 82).getD .bool, by kernel_rfl, by kernel_rfl⟩)
  eq := fun es h => by cases h
@[reducible] def ty83 : TI := ⟨1, 8, [.nilFunc], .sc, none⟩
theorem ty83_ok : TIok Try.prog 83 ty83 where
  info := ⟨Try.types.getD 83 default, .nilFunc, by kernel_rfl, by kernel_rfl, by kernel_rfl, by kernel_rfl, rfl, rfl, rfl⟩
  kd := (show ∃ d, Try.prog.underlying 83 = some d ∧ scD d = true from ⟨(Try.prog.underlying 83).getD .bool, by kernel_rfl, by kernel_rfl⟩)
  eq := fun es h => by cases h
@[reducible] def ty84 : TI := ⟨1, 8, [.nilFunc], .sc, none⟩
theorem ty84_ok : TIok Try.prog 84 ty84 where
  info := ⟨Try.types.getD 84 default, .nilFunc, by kernel_rfl, by kernel_rfl, by kernel_rfl, by kernel_rfl, rfl, rfl, rfl⟩
  kd := (show ∃ d, Try.prog.underlying 84 = some d ∧ scD d = true from ⟨(Try.prog.underlying 84).getD .bool, by kernel_rfl, by kernel_rfl⟩)
  eq := fun es h => by cases h
@[reducible] def ty85 : TI := ⟨1, 8, [.nilFunc], .sc, none⟩
theorem ty85_ok : TIok Try.prog 85 ty85 where
  info := ⟨Try.types.getD 85 default, .nilFunc, by kernel_rfl, by kernel_rfl, by kernel_rfl, by kernel_rfl, rfl, rfl, rfl⟩
  kd := (show ∃ d, Try.prog.underlying 85 = some d ∧ scD d = true from ⟨(Try.prog.underlying 85).getD .bool, by kernel_rfl, by kernel_rfl⟩)
  eq := fun es h => by cases h
@[reducible] def ty86 : TI := ⟨1, 8, [.nilFunc], .sc, none⟩
theorem ty86_ok : TIok Try.prog 86 ty86 where
  info := ⟨Try.types.getD 86 default, .nilFunc, by kernel_rfl, by kernel_rfl, by kernel_rfl, by kernel_rfl, rfl, rfl, rfl⟩
  kd := (show ∃ d, Try.prog.underlying 86 = some d ∧ scD d = true from ⟨(Try.prog.underlying 86).getD .bool, by kernel_rfl, by kernel_rfl⟩)
  eq := fun es h => by cases h
@[reducible] def ty87 : TI := ⟨1, 8, [.nilFunc], .sc, none⟩
theorem ty87_ok : TIok Try.prog 87 ty87 where
  info := ⟨Try.types.getD 87 default, .nilFunc, by kernel_rfl, by kernel_rfl, by kernel_rfl, by kernel_rfl, rfl, rfl, rfl⟩
  kd := (show ∃ d, Try.prog.underlying 87 = some d ∧ scD d = true from ⟨(Try.prog.underlying 87).getD .bool, by kernel_rfl, by kernel_rfl⟩)
  eq := fun es h => by cases h
@[reducible] def ty88 : TI := ⟨1, 8, [.nilFunc], .sc, none⟩
theorem ty88_ok : TIok Try.prog 88 ty88 where
  info := ⟨Try.types.getD 88 default, .nilFunc, by kernel_rfl, by kernel_rfl, by kernel_rfl, by kernel_rfl, rfl, rfl, rfl⟩
  kd := (show ∃ d, Try.prog.underlying 88 = some d ∧ scD d = true from ⟨(Try.prog.underlying 88).getD .bool, by kernel_rfl, by kernel_rfl⟩)
  eq := fun es h => by cases h
@[reducible] def ty89 : TI := ⟨1, 8, [.int .u64 0], .int .u64, none⟩
theorem ty89_ok : TIok Try.prog 89 ty89 where
  info := ⟨Try.types.getD 89 default, .int .u64 0, by kernel_rfl, by kernel_rfl, by kernel_rfl, by kernel_rfl, rfl, rfl, rfl⟩
  kd := (show Try.prog.underlying 89 = some (.int .u64) from by kernel_rfl)
  eq := fun es h => by cases h
theorem ty89_eq : EqOK Try.prog ty89 89 [.int .u64] 1 := eq_int (by kernel_rfl) rfl
@[reducible] def ty91 : TI := ⟨2, 16, [.int .u64 0, .int .u64 0], .st [(0, 89), (1, 89)], some [.int .u64, .int .u64]⟩
theorem ty91_eq : EqOK Try.prog ty91 91 [.int .u64, .int .u64] 2 := eq_struct (fs := Try.prog.fieldsOf 91) (by kernel_rfl) (by kernel_rfl) rfl (.of (show (Try.prog.fieldsOf 91).toList = [(Try.prog.fieldsOf 91).getD 0 default, (Try.prog.fieldsOf 91).getD 1 default] by kernel_rfl) (.c (f := (Try.prog.fieldsOf 91).getD 0 default) (by kernel_rfl) (by kernel_rfl) (by kernel_rfl) ty89_ok ty89_eq rfl (.inr rfl) (.c (f := (Try.prog.fieldsOf 91).getD 1 default) (by kernel_rfl) (by kernel_rfl) (by kernel_rfl) ty89_ok ty89_eq rfl (.inr rfl) (.nil _))))
theorem ty91_ok : TIok Try.prog 91 ty91 where
  info := ⟨Try.types.getD 91 default, .agg #[.int .u64 0, .int .u64 0], by kernel_rfl, by kernel_rfl, by kernel_rfl, by kernel_rfl, rfl, rfl, rfl⟩
  kd := (show ∃ fields, Try.prog.underlying 91 = some (.struct fields) ∧ fields.toList.map (fun f => (f.offset, f.type)) = [(0, 89), (1, 89)] from ⟨Try.prog.fieldsOf 91, by kernel_rfl, by kernel_rfl⟩)
  eq := fun es h xs ys hx hy x y w => by
    cases h
    exact eq_of (m := 2) (by decide) rfl (by kernel_rfl) ty91_eq xs ys hx hy x y w
@[reducible] def ty92 : TI := ⟨2, 16, [.int .u64 0, .int .u64 0], .st [(0, 89), (1, 89)], some [.int .u64, .int .u64]⟩
theorem ty92_eq : EqOK Try.prog ty92 92 [.int .u64, .int .u64] 2 := eq_struct (fs := Try.prog.fieldsOf 92) (by kernel_rfl) (by kernel_rfl) rfl (.of (show (Try.prog.fieldsOf 92).toList = [(Try.prog.fieldsOf 92).getD 0 default, (Try.prog.fieldsOf 92).getD 1 default] by kernel_rfl) (.c (f := (Try.prog.fieldsOf 92).getD 0 default) (by kernel_rfl) (by kernel_rfl) (by kernel_rfl) ty89_ok ty89_eq rfl (.inr rfl) (.c (f := (Try.prog.fieldsOf 92).getD 1 default) (by kernel_rfl) (by kernel_rfl) (by kernel_rfl) ty89_ok ty89_eq rfl (.inr rfl) (.nil _))))
theorem ty92_ok : TIok Try.prog 92 ty92 where
  info := ⟨Try.types.getD 92 default, .agg #[.int .u64 0, .int .u64 0], by kernel_rfl, by kernel_rfl, by kernel_rfl, by kernel_rfl, rfl, rfl, rfl⟩
  kd := (show ∃ fields, Try.prog.underlying 92 = some (.struct fields) ∧ fields.toList.map (fun f => (f.offset, f.type)) = [(0, 89), (1, 89)] from ⟨Try.prog.fieldsOf 92, by kernel_rfl, by kernel_rfl⟩)
  eq := fun es h xs ys hx hy x y w => by
    cases h
    exact eq_of (m := 2) (by decide) rfl (by kernel_rfl) ty92_eq xs ys hx hy x y w
@[reducible] def ty93 : TI := ⟨1, 8, [.nilFunc], .sc, none⟩
theorem ty93_ok : TIok Try.prog 93 ty93 where
  info := ⟨Try.types.getD 93 default, .nilFunc, by kernel_rfl, by kernel_rfl, by kernel_rfl, by kernel_rfl, rfl, rfl, rfl⟩
  kd := (show ∃ d, Try.prog.underlying 93 = some d ∧ scD d = true from ⟨(Try.prog.underlying 93).getD .bool, by kernel_rfl, by kernel_rfl⟩)
  eq := fun es h => by cases h
@[reducible] def ty94 : TI := ⟨1, 8, [.nilFunc], .sc, none⟩
theorem ty94_ok : TIok Try.prog 94 ty94 where
  info := ⟨Try.types.getD 94 default, .nilFunc, by kernel_rfl, by kernel_rfl, by kernel_rfl, by kernel_rfl, rfl, rfl, rfl⟩
  kd := (show ∃ d, Try.prog.underlying 94 = some d ∧ scD d = true from ⟨(Try.prog.underlying 94).getD .bool, by kernel_rfl, by kernel_rfl⟩)
  eq := fun es h => by cases h
@[reducible] def ty95 : TI := ⟨1, 8, [.nilFunc], .sc, none⟩
theorem ty95_ok : TIok Try.prog 95 ty95 where
  info := ⟨Try.types.getD 95 default, .nilFunc, by kernel_rfl, by kernel_rfl, by kernel_rfl, by kernel_rfl, rfl, rfl, rfl⟩
  kd := (show ∃ d, Try.prog.underlying 95 = some d ∧ scD d = true from ⟨(Try.prog.underlying 95).getD .bool, by kernel_rfl, by kernel_rfl⟩)
  eq := fun es h => by cases h
@[reducible] def ty96 : TI := ⟨1, 8, [.nilFunc], .sc, none⟩
theorem ty96_ok : TIok Try.prog 96 ty96 where
  info := ⟨Try.types.getD 96 default, .nilFunc, by kernel_rfl, by kernel_rfl, by kernel_rfl, by kernel_rfl, rfl, rfl, rfl⟩
  kd := (show ∃ d, Try.prog.underlying 96 = some d ∧ scD d = true from ⟨(Try.prog.underlying 96).getD .bool, by kernel_rfl, by kernel_rfl⟩)
  eq := fun es h => by cases h
@[reducible] def ty98 : TI := ⟨1, 8, [.nilFunc], .sc, none⟩
theorem ty98_ok : TIok Try.prog 98 ty98 where
  info := ⟨Try.types.getD 98 default, .nilFunc, by kernel_rfl, by kernel_rfl, by kernel_rfl, by kernel_rfl, rfl, rfl, rfl⟩
  kd := (show ∃ d, Try.prog.underlying 98 = some d ∧ scD d = true from ⟨(Try.prog.underlying 98).getD .bool, by kernel_rfl, by kernel_rfl⟩)
  eq := fun es h => by cases h
@[reducible] def ty100 : TI := ⟨3, 6, [.int .i16 0, .int .i16 0, .bool false], .st [(0, 99), (1, 99), (2, 4)], some [.int .i16, .int .i16, .bool]⟩
theorem ty100_eq : EqOK Try.prog ty100 100 [.int .i16, .int .i16, .bool] 2 := eq_struct (fs := Try.prog.fieldsOf 100) (by kernel_rfl) (by kernel_rfl) rfl (.of (show (Try.prog.fieldsOf 100).toList = [(Try.prog.fieldsOf 100).getD 0 default, (Try.prog.fieldsOf 100).getD 1 default, (Try.prog.fieldsOf 100).getD 2 default] by kernel_rfl) (.c (f := (Try.prog.fieldsOf 100).getD 0 default) (by kernel_rfl) (by kernel_rfl) (by kernel_rfl) ty99_ok ty99_eq rfl (.inr rfl) (.c (f := (Try.prog.fieldsOf 100).getD 1 default) (by kernel_rfl) (by kernel_rfl) (by kernel_rfl) ty99_ok ty99_eq rfl (.inr rfl) (.c (f := (Try.prog.fieldsOf 100).getD 2 default) (by kernel_rfl) (by kernel_rfl) (by kernel_rfl) ty4_ok ty4_eq rfl (.inr rfl) (.nil _)))))
theorem ty100_ok : TIok Try.prog 100 ty100 where
  info := ⟨Try.types.getD 100 default, .agg #[.int .i16 0, .int .i16 0, .bool false], by kernel_rfl, by kernel_rfl, by kernel_rfl, by kernel_rfl, rfl, rfl, rfl⟩
  kd := (show ∃ fields, Try.prog.underlying 100 = some (.struct fields) ∧ fields.toList.map (fun f => (f.offset, f.type)) = [(0, 99), (1, 99), (2, 4)] from ⟨Try.prog.fieldsOf 100, by kernel_rfl, by kernel_rfl⟩)
  eq := fun es h xs ys hx hy x y w => by
    cases h
    exact eq_of (m := 2) (by decide) rfl (by kernel_rfl) ty100_eq xs ys hx hy x y w
@[reducible] def ty102 : TI := ⟨3, 24, [.int .i64 0, .int .i64 0, .bool false], .st [(0, 3), (1, 3), (2, 4)], some [.int .i64, .int .i64, .bool]⟩
theorem ty102_eq : EqOK Try.prog ty102 102 [.int .i64, .int .i64, .bool] 2 := eq_struct (fs := Try.prog.fieldsOf 102) (by kernel_rfl) (by kernel_rfl) rfl (.of (show (Try.prog.fieldsOf 102).toList = [(Try.prog.fieldsOf 102).getD 0 default, (Try.prog.fieldsOf 102).getD 1 default, (Try.prog.fieldsOf 102).getD 2 default] by kernel_rfl) (.c (f := (Try.prog.fieldsOf 102).getD 0 default) (by kernel_rfl) (by kernel_rfl) (by kernel_rfl) ty3_ok ty3_eq rfl (.inr rfl) (.c (f := (Try.prog.fieldsOf 102).getD 1 default) (by kernel_rfl) (by kernel_rfl) (by kernel_rfl) ty3_ok ty3_eq rfl (.inr rfl) (.c (f := (Try.prog.fieldsOf 102).getD 2 default) (by kernel_rfl) (by kernel_rfl) (by kernel_rfl) ty4_ok ty4_eq rfl (.inr rfl) (.nil _)))))
theorem ty102_ok : TIok Try.prog 102 ty102 where
  info := ⟨Try.types.getD 102 default, .agg #[.int .i64 0, .int .i64 0, .bool false], by kernel_rfl, by kernel_rfl, by kernel_rfl, by kernel_rfl, rfl, rfl, rfl⟩
  kd := (show ∃ fields, Try.prog.underlying 102 = some (.struct fields) ∧ fields.toList.map (fun f => (f.offset, f.type)) = [(0, 3), (1, 3), (2, 4)] from ⟨Try.prog.fieldsOf 102, by kernel_rfl, by kernel_rfl⟩)
  eq := fun es h xs ys hx hy x y w => by
    cases h
    exact eq_of (m := 2) (by decide) rfl (by kernel_rfl) ty102_eq xs ys hx hy x y w
@[reducible] def ty104 : TI := ⟨1, 8, [.nilFunc], .sc, none⟩
theorem ty104_ok : TIok Try.prog 104 ty104 where
  info := ⟨Try.types.getD 104 default, .nilFunc, by kernel_rfl, by kernel_rfl, by kernel_rfl, by kernel_rfl, rfl, rfl, rfl⟩
  kd := (show ∃ d, Try.prog.underlying 104 = some d ∧ scD d = true from ⟨(Try.prog.underlying 104).getD .bool, by kernel_rfl, by kernel_rfl⟩)
  eq := fun es h => by cases h
@[reducible] def ty105 : TI := ⟨7, 56, [.int .i64 0, .int .i64 0, .int .i64 0, .int .i64 0, .int .i64 0, .int .i64 0, .bool false], .st [(0, 56), (2, 56), (4, 56), (6, 4)], some [.int .i64, .int .i64, .int .i64, .int .i64, .int .i64, .int .i64, .bool]⟩
theorem ty105_eq : EqOK Try.prog ty105 105 [.int .i64, .int .i64, .int .i64, .int .i64, .int .i64, .int .i64, .bool] 3 := eq_struct (fs := Try.prog.fieldsOf 105) (by kernel_rfl) (by kernel_rfl) rfl (.of (show (Try.prog.fieldsOf 105).toList = [(Try.prog.fieldsOf 105).getD 0 default, (Try.prog.fieldsOf 105).getD 1 default, (Try.prog.fieldsOf 105).getD 2 default, (Try.prog.fieldsOf 105).getD 3 default] by kernel_rfl) (.c (f := (Try.prog.fieldsOf 105).getD 0 default) (by kernel_rfl) (by kernel_rfl) (by kernel_rfl) ty56_ok ty56_eq rfl (.inl rfl) (.c (f := (Try.prog.fieldsOf 105).getD 1 default) (by kernel_rfl) (by kernel_rfl) (by kernel_rfl) ty56_ok ty56_eq rfl (.inl rfl) (.c (f := (Try.prog.fieldsOf 105).getD 2 default) (by kernel_rfl) (by kernel_rfl) (by kernel_rfl) ty56_ok ty56_eq rfl (.inl rfl) (.c (f := (Try.prog.fieldsOf 105).getD 3 default) (by kernel_rfl) (by kernel_rfl) (by kernel_rfl) ty4_ok ty4_eq.up rfl (.inr rfl) (.nil _))))))
theorem ty105_ok : TIok Try.prog 105 ty105 where
  info := ⟨Try.types.getD 105 default, .agg #[.int .i64 0, .int .i64 0, .int .i64 0, .int .i64 0, .int .i64 0, .int .i64 0, .bool false], by kernel_rfl, by kernel_rfl, by kernel_rfl, by kernel_rfl, rfl, rfl, rfl⟩
  kd := (show ∃ fields, Try.prog.underlying 105 = some (.struct fields) ∧ fields.toList.map (fun f => (f.offset, f.type)) = [(0, 56), (2, 56), (4, 56), (6, 4)] from ⟨Try.prog.fieldsOf 105, by kernel_rfl, by kernel_rfl⟩)
  eq := fun es h xs ys hx hy x y w => by
    cases h
    exact eq_of (m := 3) (by decide) rfl (by kernel_rfl) ty105_eq xs ys hx hy x y w
@[reducible] def ty107 : TI := ⟨1, 8, [.nilFunc], .sc, none⟩
theorem ty107_ok : TIok Try.prog 107 ty107 where
  info := ⟨Try.types.getD 107 default, .nilFunc, by kernel_rfl, by kernel_rfl, by kernel_rfl, by kernel_rfl, rfl, rfl, rfl⟩
  kd := (show ∃ d, Try.prog.underlying 107 = some d ∧ scD d = true from ⟨(Try.prog.underlying 107).getD .bool, by kernel_rfl, by kernel_rfl⟩)
  eq := fun es h => by cases h
@[reducible] def ty108 : TI := ⟨1, 8, [.nilFunc], .sc, none⟩
theorem ty108_ok : TIok Try.prog 108 ty108 where
  info := ⟨Try.types.getD 108 default, .nilFunc, by kernel_rfl, by kernel_rfl, by kernel_rfl, by kernel_rfl, rfl, rfl, rfl⟩
  kd := (show ∃ d, Try.prog.underlying 108 = some d ∧ scD d = true from ⟨(Try.prog.underlying 108).getD .bool, by kernel_rfl, by kernel_rfl⟩)
  eq := fun es h => by cases h
@[reducible] def ty109 : TI := ⟨1, 8, [.nilFunc], .sc, none⟩
theorem ty109_ok : TIok Try.prog 109 ty109 where
  info := ⟨Try.types.getD 109 default, .nilFunc, by kernel_rfl, by kernel_rfl, by kernel_rfl, by kernel_rfl, rfl, rfl, rfl⟩
  kd := (show ∃ d, Try.prog.underlying 109 = some d ∧ scD d = true from ⟨(Try.prog.underlying 109).getD .bool, by kernel_rfl, by kernel_rfl⟩)
  eq := fun es h => by cases h
@[reducible] def ty110 : TI := ⟨1, 8, [.nilFunc], .sc, none⟩
theorem ty110_ok : TIok Try.prog 110 ty110 where
  info := ⟨Try.types.getD 110 default, .nilFunc, by kernel_rfl, by kernel_rfl, by kernel_rfl, by kernel_rfl, rfl, rfl, rfl⟩
  kd := (show ∃ d, Try.prog.underlying 110 = some d ∧ scD d = true from ⟨(Try.prog.underlying 110).getD .bool, by kernel_rfl, by kernel_rfl⟩)
  eq := fun es h => by cases h
@[reducible] def ty111 : TI := ⟨1, 8, [.nilFunc], .sc, none⟩
theorem ty111_ok : TIok Try.prog 111 ty111 where
  info := ⟨Try.types.getD 111 default, .nilFunc, by kernel_rfl, by kernel_rfl, by kernel_rfl, by kernel_rfl, rfl, rfl, rfl⟩
  kd := (show ∃ d, Try.prog.underlying 111 = some d ∧ scD d = true from ⟨(Try.prog.underlying 111).getD .bool, by kernel_rfl, by kernel_rfl⟩)
  eq := fun es h => by cases h
@[reducible] def ty112 : TI := ⟨1, 8, [.nilFunc], .sc, none⟩
theorem ty112_ok : TIok Try.prog 112 ty112 where
  info := ⟨Try.types.getD 112 default, .nilFunc, by kernel_rfl, by kernel_rfl, by kernel_rfl, by kernel_rfl, rfl, rfl, rfl⟩
  kd := (show ∃ d, Try.prog.underlying 112 = some d ∧ scD d = true from ⟨(Try.prog.underlying 112).getD .bool, by kernel_rfl, by kernel_rfl⟩)
  eq := fun es h => by cases h
@[reducible] def ty114 : TI := ⟨1, 8, [.nilFunc], .sc, none⟩
theorem ty114_ok : TIok Try.prog 114 ty114 where
  info := ⟨Try.types.getD 114 default, .nilFunc, by kernel_rfl, by kernel_rfl, by kernel_rfl, by kernel_rfl, rfl, rfl, rfl⟩
  kd := (show ∃ d, Try.prog.underlying 114 = some d ∧ scD d = true from ⟨(Try.prog.underlying 114).getD .bool, by kernel_rfl, by kernel_rfl⟩)
  eq := fun es h => by cases h
@[reducible] def ty115 : TI := ⟨1, 8, [.nilFunc], .sc, none⟩
theorem ty115_ok : TIok Try.prog 115 ty115 where
  info := ⟨Try.types.getD 115 default, .nilFunc, by kernel_rfl, by kernel_rfl, by kernel_rfl, by kernel_rfl, rfl, rfl, rfl⟩
  kd := (show ∃ d, Try.prog.underlying 115 = some d ∧ scD d = true from ⟨(Try.prog.underlying 115).getD .bool, by kernel_rfl, by kernel_rfl⟩)
  eq := fun es h => by cases h
@[reducible] def ty116 : TI := ⟨1, 8, [.nilFunc], .sc, none⟩
theorem ty116_ok : TIok Try.prog 116 ty116 where
  info := ⟨Try.types.getD 116 default, .nilFunc, by kernel_rfl, by kernel_rfl, by kernel_rfl, by kernel_rfl, rfl, rfl, rfl⟩
  kd := (show ∃ d, Try.prog.underlying 116 = some d ∧ scD d = true from ⟨(Try.prog.underlying 116).getD .bool, by kernel_rfl, by kernel_rfl⟩)
  eq := fun es h => by cases h
@[reducible] def ty117 : TI := ⟨1, 8, [.nilFunc], .sc, none⟩
theorem ty117_ok : TIok Try.prog 117 ty117 where
  info := ⟨Try.types.getD 117 default, .nilFunc, by kernel_rfl, by kernel_rfl, by kernel_rfl, by kernel_rfl, rfl, rfl, rfl⟩
  kd := (show ∃ d, Try.prog.underlying 117 = some d ∧ scD d = true from ⟨(Try.prog.underlying 117).getD .bool, by kernel_rfl, by kernel_rfl⟩)
  eq := fun es h => by cases h
@[reducible] def ty118 : TI := ⟨1, 8, [.int .u64 0], .int .u64, none⟩
theorem ty118_ok : TIok Try.prog 118 ty118 where
  info := ⟨Try.types.getD 118 default, .int .u64 0, by kernel_rfl, by kernel_rfl, by kernel_rfl, by kernel_rfl, rfl, rfl, rfl⟩
  kd := (show Try.prog.underlying 118 = some (.int .u64) from by kernel_rfl)
  eq := fun es h => by cases h
theorem ty118_eq : EqOK Try.prog ty118 118 [.int .u64] 1 := eq_int (by kernel_rfl) rfl
@[reducible] def ty119 : TI := ⟨1, 8, [.nilFunc], .sc, none⟩
theorem ty119_ok : TIok Try.prog 119 ty119 where
  info := ⟨Try.types.getD 119 default, .nilFunc, by kernel_rfl, by kernel_rfl, by kernel_rfl, by kernel_rfl, rfl, rfl, rfl⟩
  kd := (show ∃ d, Try.prog.underlying 119 = some d ∧ scD d = true from ⟨(Try.prog.underlying 119).getD .bool, by kernel_rfl, by kernel_rfl⟩)
  eq := fun es h => by cases h
@[reducible] def ty120 : TI := ⟨3, 24, [.int .i64 0, .int .i64 0, .int .i64 0], .ar 3 3, none⟩
theorem ty120_ok : TIok Try.prog 120 ty120 where
  info := ⟨Try.types.getD 120 default, .agg #[.int .i64 0, .int .i64 0, .int .i64 0], by kernel_rfl, by kernel_rfl, by kernel_rfl, by kernel_rfl, rfl, rfl, rfl⟩
  kd := (show Try.prog.underlying 120 = some (.array 3 3) from by kernel_rfl)
  eq := fun es h => by cases h
@[reducible] def ty121 : TI := ⟨1, 8, [.nilFunc], .sc, none⟩
theorem ty121_ok : TIok Try.prog 121 ty121 where
  info := ⟨Try.types.getD 121 default, .nilFunc, by kernel_rfl, by kernel_rfl, by kernel_rfl, by kernel_rfl, rfl, rfl, rfl⟩
  kd := (show ∃ d, Try.prog.underlying 121 = some d ∧ scD d = true from ⟨(Try.prog.underlying 121).getD .bool, by kernel_rfl, by kernel_rfl⟩)
  eq := fun es h => by cases h
@[reducible] def ty122 : TI := ⟨1, 8, [.nilFunc], .sc, none⟩
theorem ty122_ok : TIok Try.prog 122 ty122 where
  info := ⟨Try.types.getD 122 default, .nilFunc, by kernel_rfl, by kernel_rfl, by kernel_rfl, by kernel_rfl, rfl, rfl, rfl⟩
  kd := (show ∃ d, Try.prog.underlying 122 = some d ∧ scD d = true from ⟨(Try.prog.underlying 122).getD .bool, by kernel_rfl, by kernel_rfl⟩)
  eq := fun es h => by cases h
@[reducible] def ty123 : TI := ⟨1, 8, [.pointer none], .pt 103, none⟩
theorem ty123_ok : TIok Try.prog 123 ty123 where
  info := ⟨Try.types.getD 123 default, .pointer none, by kernel_rfl, by kernel_rfl, by kernel_rfl, by kernel_rfl, rfl, rfl, rfl⟩
  kd := (show Try.prog.underlying 123 = some (.pointer 103) from by kernel_rfl)
  eq := fun es h => by cases h
@[reducible] def ty124 : TI := ⟨1, 8, [.nilFunc], .sc, none⟩
theorem ty124_ok : TIok Try.prog 124 ty124 where
  info := ⟨Try.types.getD 124 default, .nilFunc, by kernel_rfl, by kernel_rfl, by kernel_rfl, by kernel_rfl, rfl, rfl, rfl⟩
  kd := (show ∃ d, Try.prog.underlying 124 = some d ∧ scD d = true from ⟨(Try.prog.underlying 124).getD .bool, by kernel_rfl, by kernel_rfl⟩)
  eq := fun es h => by cases h
@[reducible] def ty125 : TI := ⟨1, 8, [.nilFunc], .sc, none⟩
theorem ty125_ok : TIok Try.prog 125 ty125 where
  info := ⟨Try.types.getD 125 default, .nilFunc, by kernel_rfl, by kernel_rfl, by kernel_rfl, by kernel_rfl, rfl, rfl, rfl⟩
  kd := (show ∃ d, Try.prog.underlying 125 = some d ∧ scD d = true from ⟨(Try.prog.underlying 125).getD .bool, by kernel_rfl, by kernel_rfl⟩)
  eq := fun es h => by cases h
@[reducible] def ty126 : TI := ⟨1, 8, [.nilFunc], .sc, none⟩
theorem ty126_ok : TIok Try.prog 126 ty126 where
  info := ⟨Try.types.getD 126 default, .nilFunc, by kernel_rfl, by kernel_rfl, by kernel_rfl, by kernel_rfl, rfl, rfl, rfl⟩
  kd := (show ∃ d, Try.prog.underlying 126 = some d ∧ scD d = true from ⟨(Try.prog.underlying 126).getD .bool, by kernel_rfl, by kernel_rfl⟩)
  eq := fun es h => by cases h
@[reducible] def ty127 : TI := ⟨1, 8, [.nilFunc], .sc, none⟩
theorem ty127_ok : TIok Try.prog 127 ty127 where
  info := ⟨Try.types.getD 127 default, .nilFunc, by kernel_rfl, by kernel_rfl, by kernel_rfl, by kernel_rfl, rfl, rfl, rfl⟩
  kd := (show ∃ d, Try.prog.underlying 127 = some d ∧ scD d = true from ⟨(Try.prog.underlying 127).getD .bool, by kernel_rfl, by kernel_rfl⟩)
  eq := fun es h => by cases h
@[reducible] def ty133 : TI := ⟨1, 8, [.nilFunc], .sc, none⟩
theorem ty133_ok : TIok Try.prog 133 ty133 where
  info := ⟨Try.types.getD 133 default, .nilFunc, by kernel_rfl, by kernel_rfl, by kernel_rfl, by kernel_rfl, rfl, rfl, rfl⟩
  kd := (show ∃ d, Try.prog.underlying 133 = some d ∧ scD d = true from ⟨(Try.prog.underlying 133).getD .bool, by kernel_rfl, by kernel_rfl⟩)
  eq := fun es h => by cases h
@[reducible] def ty134 : TI := ⟨1, 4, [.int .u32 0], .int .u32, none⟩
theorem ty134_ok : TIok Try.prog 134 ty134 where
  info := ⟨Try.types.getD 134 default, .int .u32 0, by kernel_rfl, by kernel_rfl, by kernel_rfl, by kernel_rfl, rfl, rfl, rfl⟩
  kd := (show Try.prog.underlying 134 = some (.int .u32) from by kernel_rfl)
  eq := fun es h => by cases h
theorem ty134_eq : EqOK Try.prog ty134 134 [.int .u32] 1 := eq_int (by kernel_rfl) rfl
@[reducible] def ty138 : TI := ⟨1, 8, [.pointer none], .pt 5, none⟩
theorem ty138_ok : TIok Try.prog 138 ty138 where
  info := ⟨Try.types.getD 138 default, .pointer none, by kernel_rfl, by kernel_rfl, by kernel_rfl, by kernel_rfl, rfl, rfl, rfl⟩
  kd := (show Try.prog.underlying 138 = some (.pointer 5) from by kernel_rfl)
  eq := fun es h => by cases h
def tt : Nat → Option TI := SX.look [(1, ty1), (2, ty2), (3, ty3), (4, ty4), (5, ty5), (9, ty9), (12, ty12), (21, ty21), (22, ty22), (23, ty23), (24, ty24), (25, ty25), (26, ty26), (27, ty27), (28, ty28), (29, ty29), (30, ty30), (31, ty31), (33, ty33), (34, ty34), (99, ty99), (101, ty101), (72, ty72), (35, ty35), (36, ty36), (37, ty37), (56, ty56), (70, ty70), (38, ty38), (39, ty39), (41, ty41), (42, ty42), (43, ty43), (44, ty44), (45, ty45), (46, ty46), (47, ty47), (49, ty49), (50, ty50), (51, ty51), (52, ty52), (53, ty53), (54, ty54), (55, ty55), (57, ty57), (58, ty58), (59, ty59), (61, ty61), (62, ty62), (63, ty63), (64, ty64), (65, ty65), (66, ty66), (67, ty67), (68, ty68), (69, ty69), (71, ty71), (106, ty106), (79, ty79), (73, ty73), (74, ty74), (103, ty103), (97, ty97), (75, ty75), (76, ty76), (77, ty77), (78, ty78), (80, ty80), (81, ty81), (82, ty82), (83, ty83), (84, ty84), (85, ty85), (86, ty86), (87, ty87), (88, ty88), (89, ty89), (91, ty91), (92, ty92), (93, ty93), (94, ty94), (95, ty95), (96, ty96), (98, ty98), (100, ty100), (102, ty102), (104, ty104), (105, ty105), (107, ty107), (108, ty108), (109, ty109), (110, ty110), (111, ty111), (112, ty112), (114, ty114), (115, ty115), (116, ty116), (117, ty117), (118, ty118), (119, ty119), (120, ty120), (121, ty121), (122, ty122), (123, ty123), (124, ty124), (125, ty125), (126, ty126), (127, ty127), (133, ty133), (134, ty134), (138, ty138)]
theorem tt_ok : ∀ T ti, tt T = some ti → TIok Try.prog T ti := fun T ti h => by
  have h := SX.look_mem (xs := _) h
  simp only [List.mem_cons, Prod.mk.injEq, List.not_mem_nil, or_false] at h
  rcases h with ⟨rfl, rfl⟩ | ⟨rfl, rfl⟩ | ⟨rfl, rfl⟩ | ⟨rfl, rfl⟩ | ⟨rfl, rfl⟩ | ⟨rfl, rfl⟩ | ⟨rfl, rfl⟩ | ⟨rfl, rfl⟩ | ⟨rfl, rfl⟩ | ⟨rfl, rfl⟩ | ⟨rfl, rfl⟩ | ⟨rfl, rfl⟩ | ⟨rfl, rfl⟩ | ⟨rfl, rfl⟩ | ⟨rfl, rfl⟩ | ⟨rfl, rfl⟩ | ⟨rfl, rfl⟩ | ⟨rfl, rfl⟩ | ⟨rfl, rfl⟩ | ⟨rfl, rfl⟩ | ⟨rfl, rfl⟩ | ⟨rfl, rfl⟩ | ⟨rfl, rfl⟩ | ⟨rfl, rfl⟩ | ⟨rfl, rfl⟩ | ⟨rfl, rfl⟩ | ⟨rfl, rfl⟩ | ⟨rfl, rfl⟩ | ⟨rfl, rfl⟩ | ⟨rfl, rfl⟩ | ⟨rfl, rfl⟩ | ⟨rfl, rfl⟩ | ⟨rfl, rfl⟩ | ⟨rfl, rfl⟩ | ⟨rfl, rfl⟩ | ⟨rfl, rfl⟩ | ⟨rfl, rfl⟩ | ⟨rfl, rfl⟩ | ⟨rfl, rfl⟩ | ⟨rfl, rfl⟩ | ⟨rfl, rfl⟩ | ⟨rfl, rfl⟩ | ⟨rfl, rfl⟩ | ⟨rfl, rfl⟩ | ⟨rfl, rfl⟩ | ⟨rfl, rfl⟩ | ⟨rfl, rfl⟩ | ⟨rfl, rfl⟩ | ⟨rfl, rfl⟩ | ⟨rfl, rfl⟩ | ⟨rfl, rfl⟩ | ⟨rfl, rfl⟩ | ⟨rfl, rfl⟩ | ⟨rfl, rfl⟩ | ⟨rfl, rfl⟩ | ⟨rfl, rfl⟩ | ⟨rfl, rfl⟩ | ⟨rfl, rfl⟩ | ⟨rfl, rfl⟩ | ⟨rfl, rfl⟩ | ⟨rfl, rfl⟩ | ⟨rfl, rfl⟩ | ⟨rfl, rfl⟩ | ⟨rfl, rfl⟩ | ⟨rfl, rfl⟩ | ⟨rfl, rfl⟩ | ⟨rfl, rfl⟩ | ⟨rfl, rfl⟩ | ⟨rfl, rfl⟩ | ⟨rfl, rfl⟩ | ⟨rfl, rfl⟩ | ⟨rfl, rfl⟩ | ⟨rfl, rfl⟩ | ⟨rfl, rfl⟩ | ⟨rfl, rfl⟩ | ⟨rfl, rfl⟩ | ⟨rfl, rfl⟩ | ⟨rfl, rfl⟩ | ⟨rfl, rfl⟩ | ⟨rfl, rfl⟩ | ⟨rfl, rfl⟩ | ⟨rfl, rfl⟩ | ⟨rfl, rfl⟩ | ⟨rfl, rfl⟩ | ⟨rfl, rfl⟩ | ⟨rfl, rfl⟩ | ⟨rfl, rfl⟩ | ⟨rfl, rfl⟩ | ⟨rfl, rfl⟩ | ⟨rfl, rfl⟩ | ⟨rfl, rfl⟩ | ⟨rfl, rfl⟩ | ⟨rfl, rfl⟩ | ⟨rfl, rfl⟩ | ⟨rfl, rfl⟩ | ⟨rfl, rfl⟩ | ⟨rfl, rfl⟩ | ⟨rfl, rfl⟩ | ⟨rfl, rfl⟩ | ⟨rfl, rfl⟩ | ⟨rfl, rfl⟩ | ⟨rfl, rfl⟩ | ⟨rfl, rfl⟩ | ⟨rfl, rfl⟩ | ⟨rfl, rfl⟩ | ⟨rfl, rfl⟩ | ⟨rfl, rfl⟩ | ⟨rfl, rfl⟩ | ⟨rfl, rfl⟩ | ⟨rfl, rfl⟩ | ⟨rfl, rfl⟩
  · exact ty1_ok
  · exact ty2_ok
  · exact ty3_ok
  · exact ty4_ok
  · exact ty5_ok
  · exact ty9_ok
  · exact ty12_ok
  · exact ty21_ok
  · exact ty22_ok
  · exact ty23_ok
  · exact ty24_ok
  · exact ty25_ok
  · exact ty26_ok
  · exact ty27_ok
  · exact ty28_ok
  · exact ty29_ok
  · exact ty30_ok
  · exact ty31_ok
  · exact ty33_ok
  · exact ty34_ok
  · exact ty99_ok
  · exact ty101_ok
  · exact ty72_ok
  · exact ty35_ok
  · exact ty36_ok
  · exact ty37_ok
  · exact ty56_ok
  · exact ty70_ok
  · exact ty38_ok
  · exact ty39_ok
  · exact ty41_ok
  · exact ty42_ok
  · exact ty43_ok
  · exact ty44_ok
  · exact ty45_ok
  · exact ty46_ok
  · exact ty47_ok
  · exact ty49_ok
  · exact ty50_ok
  · exact ty51_ok
  · exact ty52_ok
  · exact ty53_ok
  · exact ty54_ok
  · exact ty55_ok
  · exact ty57_ok
  · exact ty58_ok
  · exact ty59_ok
  · exact ty61_ok
  · exact ty62_ok
  · exact ty63_ok
  · exact ty64_ok
  · exact ty65_ok
  · exact ty66_ok
  · exact ty67_ok
  · exact ty68_ok
  · exact ty69_ok
  · exact ty71_ok
  · exact ty106_ok
  · exact ty79_ok
  · exact ty73_ok
  · exact ty74_ok
  · exact ty103_ok
  · exact ty97_ok
  · exact ty75_ok
  · exact ty76_ok
  · exact ty77_ok
  · exact ty78_ok
  · exact ty80_ok
  · exact ty81_ok
  · exact ty82_ok
  · exact ty83_ok
  · exact ty84_ok
  · exact ty85_ok
  · exact ty86_ok
  · exact ty87_ok
  · exact ty88_ok
  · exact ty89_ok
  · exact ty91_ok
  · exact ty92_ok
  · exact ty93_ok
  · exact ty94_ok
  · exact ty95_ok
  · exact ty96_ok
  · exact ty98_ok
  · exact ty100_ok
  · exact ty102_ok
  · exact ty104_ok
  · exact ty105_ok
  · exact ty107_ok
  · exact ty108_ok
  · exact ty109_ok
  · exact ty110_ok
  · exact ty111_ok
  · exact ty112_ok
  · exact ty114_ok
  · exact ty115_ok
  · exact ty116_ok
  · exact ty117_ok
  · exact ty118_ok
  · exact ty119_ok
  · exact ty120_ok
  · exact ty121_ok
  · exact ty122_ok
  · exact ty123_ok
  · exact ty124_ok
  · exact ty125_ok
  · exact ty126_ok
  · exact ty127_ok
  · exact ty133_ok
  · exact ty134_ok
  · exact ty138_ok
theorem follows : Try.prog.follows .mixedOrders = true := by kernel_rfl
end Go.Proofs.Ytpadocjddoenhaa
