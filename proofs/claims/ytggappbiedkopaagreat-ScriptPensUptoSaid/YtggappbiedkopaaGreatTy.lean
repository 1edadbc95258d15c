/- The rows of the type table that the walks need. Printed by gen_ty.py. -/
import Derived.Test.YtggappbiedkopaaGreatSo
import Derived.Test.YtggappbiedkopaaGreatProg
import Derived.KernelRfl
namespace Go.Proofs.YtggappbiedkopaaGreat
open Go SX
set_option linter.unusedVariables false
set_option maxRecDepth 100000

@[reducible] def ty1 : TI := ⟨1, 8, [.nilFunc], .sc, none⟩
theorem ty1_ok : TIok Tryz.prog 1 ty1 where
  info := ⟨Tryz.types.getD 1 default, .nilFunc, by kernel_rfl, by kernel_rfl, by kernel_rfl, by kernel_rfl, rfl, rfl, rfl⟩
  kd := (show ∃ d, Tryz.prog.underlying 1 = some d ∧ scD d = true from ⟨(Tryz.prog.underlying 1).getD .bool, by kernel_rfl, by kernel_rfl⟩)
  eq := fun es h => by cases h
@[reducible] def ty2 : TI := ⟨1, 8, [.int .i64 0], .int .i64, none⟩
theorem ty2_ok : TIok Tryz.prog 2 ty2 where
  info := ⟨Tryz.types.getD 2 default, .int .i64 0, by kernel_rfl, by kernel_rfl, by kernel_rfl, by kernel_rfl, rfl, rfl, rfl⟩
  kd := (show Tryz.prog.underlying 2 = some (.int .i64) from by kernel_rfl)
  eq := fun es h => by cases h
theorem ty2_eq : EqOK Tryz.prog ty2 2 [.int .i64] 1 := eq_int (by kernel_rfl) rfl
@[reducible] def ty3 : TI := ⟨1, 8, [.int .i64 0], .int .i64, none⟩
theorem ty3_ok : TIok Tryz.prog 3 ty3 where
  info := ⟨Tryz.types.getD 3 default, .int .i64 0, by kernel_rfl, by kernel_rfl, by kernel_rfl, by kernel_rfl, rfl, rfl, rfl⟩
  kd := (show Tryz.prog.underlying 3 = some (.int .i64) from by kernel_rfl)
  eq := fun es h => by cases h
theorem ty3_eq : EqOK Tryz.prog ty3 3 [.int .i64] 1 := eq_int (by kernel_rfl) rfl
@[reducible] def ty4 : TI := ⟨1, 1, [.bool false], .bl, none⟩
theorem ty4_ok : TIok Tryz.prog 4 ty4 where
  info := ⟨Tryz.types.getD 4 default, .bool false, by kernel_rfl, by kernel_rfl, by kernel_rfl, by kernel_rfl, rfl, rfl, rfl⟩
  kd := (show Tryz.prog.underlying 4 = some .bool from by kernel_rfl)
  eq := fun es h => by cases h
theorem ty4_eq : EqOK Tryz.prog ty4 4 [.bool] 1 := eq_bool (by kernel_rfl) rfl
@[reducible] def ty5 : TI := ⟨1, 1, [.int .u8 0], .int .u8, none⟩
theorem ty5_ok : TIok Tryz.prog 5 ty5 where
  info := ⟨Tryz.types.getD 5 default, .int .u8 0, by kernel_rfl, by kernel_rfl, by kernel_rfl, by kernel_rfl, rfl, rfl, rfl⟩
  kd := (show Tryz.prog.underlying 5 = some (.int .u8) from by kernel_rfl)
  eq := fun es h => by cases h
theorem ty5_eq : EqOK Tryz.prog ty5 5 [.int .u8] 1 := eq_int (by kernel_rfl) rfl
@[reducible] def ty9 : TI := ⟨1, 16, [.string .empty], .str, none⟩
theorem ty9_ok : TIok Tryz.prog 9 ty9 where
  info := ⟨Tryz.types.getD 9 default, .string .empty, by kernel_rfl, by kernel_rfl, by kernel_rfl, by kernel_rfl, rfl, rfl, rfl⟩
  kd := (show Tryz.prog.underlying 9 = some .string from by kernel_rfl)
  eq := fun es h => by cases h
@[reducible] def ty12 : TI := ⟨1, 8, [.int .u64 0], .int .u64, none⟩
theorem ty12_ok : TIok Tryz.prog 12 ty12 where
  info := ⟨Tryz.types.getD 12 default, .int .u64 0, by kernel_rfl, by kernel_rfl, by kernel_rfl, by kernel_rfl, rfl, rfl, rfl⟩
  kd := (show Tryz.prog.underlying 12 = some (.int .u64) from by kernel_rfl)
  eq := fun es h => by cases h
theorem ty12_eq : EqOK Tryz.prog ty12 12 [.int .u64] 1 := eq_int (by kernel_rfl) rfl
@[reducible] def ty21 : TI := ⟨1, 4, [.int .i32 0], .int .i32, none⟩
theorem ty21_ok : TIok Tryz.prog 21 ty21 where
  info := ⟨Tryz.types.getD 21 default, .int .i32 0, by kernel_rfl, by kernel_rfl, by kernel_rfl, by kernel_rfl, rfl, rfl, rfl⟩
  kd := (show Tryz.prog.underlying 21 = some (.int .i32) from by kernel_rfl)
  eq := fun es h => by cases h
theorem ty21_eq : EqOK Tryz.prog ty21 21 [.int .i32] 1 := eq_int (by kernel_rfl) rfl
@[reducible] def ty22 : TI := ⟨1, 24, [.slice none 0 0], .sl 5, none⟩
theorem ty22_ok : TIok Tryz.prog 22 ty22 where
  info := ⟨Tryz.types.getD 22 default, .slice none 0 0, by kernel_rfl, by kernel_rfl, by kernel_rfl, by kernel_rfl, rfl, rfl, rfl⟩
  kd := (show Tryz.prog.underlying 22 = some (.slice 5) from by kernel_rfl)
  eq := fun es h => by cases h
@[reducible] def ty23 : TI := ⟨1, 8, [.nilFunc], .sc, none⟩
theorem ty23_ok : TIok Tryz.prog 23 ty23 where
  info := ⟨Tryz.types.getD 23 default, .nilFunc, by kernel_rfl, by kernel_rfl, by kernel_rfl, by kernel_rfl, rfl, rfl, rfl⟩
  kd := (show ∃ d, Tryz.prog.underlying 23 = some d ∧ scD d = true from ⟨(Tryz.prog.underlying 23).getD .bool, by kernel_rfl, by kernel_rfl⟩)
  eq := fun es h => by cases h
@[reducible] def ty26 : TI := ⟨1, 8, [.int .i64 0], .int .i64, none⟩
theorem ty26_ok : TIok Tryz.prog 26 ty26 where
  info := ⟨Tryz.types.getD 26 default, .int .i64 0, by kernel_rfl, by kernel_rfl, by kernel_rfl, by kernel_rfl, rfl, rfl, rfl⟩
  kd := (show Tryz.prog.underlying 26 = some (.int .i64) from by kernel_rfl)
  eq := fun es h => by cases h
theorem ty26_eq : EqOK Tryz.prog ty26 26 [.int .i64] 1 := eq_int (by kernel_rfl) rfl
@[reducible] def ty28 : TI := ⟨2, 16, [.int .i64 0, .int .i64 0], .st [(0, 3), (1, 3)], some [.int .i64, .int .i64]⟩
theorem ty28_eq : EqOK Tryz.prog ty28 28 [.int .i64, .int .i64] 2 := eq_struct (fs := Tryz.prog.fieldsOf 28) (by kernel_rfl) (by kernel_rfl) rfl (.of (show (Tryz.prog.fieldsOf 28).toList = [(Tryz.prog.fieldsOf 28).getD 0 default, (Tryz.prog.fieldsOf 28).getD 1 default] by kernel_rfl) (.c (f := (Tryz.prog.fieldsOf 28).getD 0 default) (by kernel_rfl) (by kernel_rfl) (by kernel_rfl) ty3_ok ty3_eq rfl (.inr rfl) (.c (f := (Tryz.prog.fieldsOf 28).getD 1 default) (by kernel_rfl) (by kernel_rfl) (by kernel_rfl) ty3_ok ty3_eq rfl (.inr rfl) (.nil _))))
theorem ty28_ok : TIok Tryz.prog 28 ty28 where
  info := ⟨Tryz.types.getD 28 default, .agg #[.int .i64 0, .int .i64 0], by kernel_rfl, by kernel_rfl, by kernel_rfl, by kernel_rfl, rfl, rfl, rfl⟩
  kd := (show ∃ fields, Tryz.prog.underlying 28 = some (.struct fields) ∧ fields.toList.map (fun f => (f.offset, f.type)) = [(0, 3), (1, 3)] from ⟨Tryz.prog.fieldsOf 28, by kernel_rfl, by kernel_rfl⟩)
  eq := fun es h xs ys hx hy x y w => by
    cases h
    exact eq_of (m := 2) (by decide) rfl (by kernel_rfl) ty28_eq xs ys hx hy x y w
@[reducible] def ty30 : TI := ⟨7, 56, [.int .i64 0, .int .i64 0, .int .i64 0, .int .i64 0, .int .i64 0, .int .i64 0, .int .u8 0], .st [(0, 3), (1, 3), (2, 28), (4, 3), (5, 3), (6, 5)], some [.int .i64, .int .i64, .int .i64, .int .i64, .int .i64, .int .i64, .int .u8]⟩
theorem ty30_eq : EqOK Tryz.prog ty30 30 [.int .i64, .int .i64, .int .i64, .int .i64, .int .i64, .int .i64, .int .u8] 3 := eq_struct (fs := Tryz.prog.fieldsOf 30) (by kernel_rfl) (by kernel_rfl) rfl (.of (show (Tryz.prog.fieldsOf 30).toList = [(Tryz.prog.fieldsOf 30).getD 0 default, (Tryz.prog.fieldsOf 30).getD 1 default, (Tryz.prog.fieldsOf 30).getD 2 default, (Tryz.prog.fieldsOf 30).getD 3 default, (Tryz.prog.fieldsOf 30).getD 4 default, (Tryz.prog.fieldsOf 30).getD 5 default] by kernel_rfl) (.c (f := (Tryz.prog.fieldsOf 30).getD 0 default) (by kernel_rfl) (by kernel_rfl) (by kernel_rfl) ty3_ok ty3_eq.up rfl (.inr rfl) (.c (f := (Tryz.prog.fieldsOf 30).getD 1 default) (by kernel_rfl) (by kernel_rfl) (by kernel_rfl) ty3_ok ty3_eq.up rfl (.inr rfl) (.c (f := (Tryz.prog.fieldsOf 30).getD 2 default) (by kernel_rfl) (by kernel_rfl) (by kernel_rfl) ty28_ok ty28_eq rfl (.inl rfl) (.c (f := (Tryz.prog.fieldsOf 30).getD 3 default) (by kernel_rfl) (by kernel_rfl) (by kernel_rfl) ty3_ok ty3_eq.up rfl (.inr rfl) (.c (f := (Tryz.prog.fieldsOf 30).getD 4 default) (by kernel_rfl) (by kernel_rfl) (by kernel_rfl) ty3_ok ty3_eq.up rfl (.inr rfl) (.c (f := (Tryz.prog.fieldsOf 30).getD 5 default) (by kernel_rfl) (by kernel_rfl) (by kernel_rfl) ty5_ok ty5_eq.up rfl (.inr rfl) (.nil _))))))))
theorem ty30_ok : TIok Tryz.prog 30 ty30 where
  info := ⟨Tryz.types.getD 30 default, .agg #[.int .i64 0, .int .i64 0, .int .i64 0, .int .i64 0, .int .i64 0, .int .i64 0, .int .u8 0], by kernel_rfl, by kernel_rfl, by kernel_rfl, by kernel_rfl, rfl, rfl, rfl⟩
  kd := (show ∃ fields, Tryz.prog.underlying 30 = some (.struct fields) ∧ fields.toList.map (fun f => (f.offset, f.type)) = [(0, 3), (1, 3), (2, 28), (4, 3), (5, 3), (6, 5)] from ⟨Tryz.prog.fieldsOf 30, by kernel_rfl, by kernel_rfl⟩)
  eq := fun es h xs ys hx hy x y w => by
    cases h
    exact eq_of (m := 3) (by decide) rfl (by kernel_rfl) ty30_eq xs ys hx hy x y w
@[reducible] def ty32 : TI := ⟨10, 104, [.int .i64 0, .string .empty, .slice none 0 0, .int .i64 0, .int .i64 0, .int .i64 0, .int .i64 0, .int .i64 0, .int .i64 0, .int .u8 0], .st [(0, 26), (1, 9), (2, 22), (3, 30)], none⟩
theorem ty32_ok : TIok Tryz.prog 32 ty32 where
  info := ⟨Tryz.types.getD 32 default, .agg #[.int .i64 0, .string .empty, .slice none 0 0, .int .i64 0, .int .i64 0, .int .i64 0, .int .i64 0, .int .i64 0, .int .i64 0, .int .u8 0], by kernel_rfl, by kernel_rfl, by kernel_rfl, by kernel_rfl, rfl, rfl, rfl⟩
  kd := (show ∃ fields, Tryz.prog.underlying 32 = some (.struct fields) ∧ fields.toList.map (fun f => (f.offset, f.type)) = [(0, 26), (1, 9), (2, 22), (3, 30)] from ⟨Tryz.prog.fieldsOf 32, by kernel_rfl, by kernel_rfl⟩)
  eq := fun es h => by cases h
@[reducible] def ty24 : TI := ⟨1, 24, [.slice none 0 0], .sl 32, none⟩
theorem ty24_ok : TIok Tryz.prog 24 ty24 where
  info := ⟨Tryz.types.getD 24 default, .slice none 0 0, by kernel_rfl, by kernel_rfl, by kernel_rfl, by kernel_rfl, rfl, rfl, rfl⟩
  kd := (show Tryz.prog.underlying 24 = some (.slice 32) from by kernel_rfl)
  eq := fun es h => by cases h
@[reducible] def ty25 : TI := ⟨1, 8, [.nilFunc], .sc, none⟩
theorem ty25_ok : TIok Tryz.prog 25 ty25 where
  info := ⟨Tryz.types.getD 25 default, .nilFunc, by kernel_rfl, by kernel_rfl, by kernel_rfl, by kernel_rfl, rfl, rfl, rfl⟩
  kd := (show ∃ d, Tryz.prog.underlying 25 = some d ∧ scD d = true from ⟨(Tryz.prog.underlying 25).getD .bool, by kernel_rfl, by kernel_rfl⟩)
  eq := fun es h => by cases h
@[reducible] def ty27 : TI := ⟨2, 16, [.int .i64 0, .int .i64 0], .st [(0, 3), (1, 3)], some [.int .i64, .int .i64]⟩
theorem ty27_eq : EqOK Tryz.prog ty27 27 [.int .i64, .int .i64] 2 := eq_struct (fs := Tryz.prog.fieldsOf 27) (by kernel_rfl) (by kernel_rfl) rfl (.of (show (Tryz.prog.fieldsOf 27).toList = [(Tryz.prog.fieldsOf 27).getD 0 default, (Tryz.prog.fieldsOf 27).getD 1 default] by kernel_rfl) (.c (f := (Tryz.prog.fieldsOf 27).getD 0 default) (by kernel_rfl) (by kernel_rfl) (by kernel_rfl) ty3_ok ty3_eq rfl (.inr rfl) (.c (f := (Tryz.prog.fieldsOf 27).getD 1 default) (by kernel_rfl) (by kernel_rfl) (by kernel_rfl) ty3_ok ty3_eq rfl (.inr rfl) (.nil _))))
theorem ty27_ok : TIok Tryz.prog 27 ty27 where
  info := ⟨Tryz.types.getD 27 default, .agg #[.int .i64 0, .int .i64 0], by kernel_rfl, by kernel_rfl, by kernel_rfl, by kernel_rfl, rfl, rfl, rfl⟩
  kd := (show ∃ fields, Tryz.prog.underlying 27 = some (.struct fields) ∧ fields.toList.map (fun f => (f.offset, f.type)) = [(0, 3), (1, 3)] from ⟨Tryz.prog.fieldsOf 27, by kernel_rfl, by kernel_rfl⟩)
  eq := fun es h xs ys hx hy x y w => by
    cases h
    exact eq_of (m := 2) (by decide) rfl (by kernel_rfl) ty27_eq xs ys hx hy x y w
@[reducible] def ty29 : TI := ⟨7, 56, [.int .i64 0, .int .i64 0, .int .i64 0, .int .i64 0, .int .i64 0, .int .i64 0, .int .u8 0], .st [(0, 3), (1, 3), (2, 28), (4, 3), (5, 3), (6, 5)], some [.int .i64, .int .i64, .int .i64, .int .i64, .int .i64, .int .i64, .int .u8]⟩
theorem ty29_eq : EqOK Tryz.prog ty29 29 [.int .i64, .int .i64, .int .i64, .int .i64, .int .i64, .int .i64, .int .u8] 3 := eq_struct (fs := Tryz.prog.fieldsOf 29) (by kernel_rfl) (by kernel_rfl) rfl (.of (show (Tryz.prog.fieldsOf 29).toList = [(Tryz.prog.fieldsOf 29).getD 0 default, (Tryz.prog.fieldsOf 29).getD 1 default, (Tryz.prog.fieldsOf 29).getD 2 default, (Tryz.prog.fieldsOf 29).getD 3 default, (Tryz.prog.fieldsOf 29).getD 4 default, (Tryz.prog.fieldsOf 29).getD 5 default] by kernel_rfl) (.c (f := (Tryz.prog.fieldsOf 29).getD 0 default) (by kernel_rfl) (by kernel_rfl) (by kernel_rfl) ty3_ok ty3_eq.up rfl (.inr rfl) (.c (f := (Tryz.prog.fieldsOf 29).getD 1 default) (by kernel_rfl) (by kernel_rfl) (by kernel_rfl) ty3_ok ty3_eq.up rfl (.inr rfl) (.c (f := (Tryz.prog.fieldsOf 29).getD 2 default) (by kernel_rfl) (by kernel_rfl) (by kernel_rfl) ty28_ok ty28_eq rfl (.inl rfl) (.c (f := (Tryz.prog.fieldsOf 29).getD 3 default) (by kernel_rfl) (by kernel_rfl) (by kernel_rfl) ty3_ok ty3_eq.up rfl (.inr rfl) (.c (f := (Tryz.prog.fieldsOf 29).getD 4 default) (by kernel_rfl) (by kernel_rfl) (by kernel_rfl) ty3_ok ty3_eq.up rfl (.inr rfl) (.c (f := (Tryz.prog.fieldsOf 29).getD 5 default) (by kernel_rfl) (by kernel_rfl) (by kernel_rfl) ty5_ok ty5_eq.up rfl (.inr rfl) (.nil _))))))))
theorem ty29_ok : TIok Tryz.prog 29 ty29 where
  info := ⟨Tryz.types.getD 29 default, .agg #[.int .i64 0, .int .i64 0, .int .i64 0, .int .i64 0, .int .i64 0, .int .i64 0, .int .u8 0], by kernel_rfl, by kernel_rfl, by kernel_rfl, by kernel_rfl, rfl, rfl, rfl⟩
  kd := (show ∃ fields, Tryz.prog.underlying 29 = some (.struct fields) ∧ fields.toList.map (fun f => (f.offset, f.type)) = [(0, 3), (1, 3), (2, 28), (4, 3), (5, 3), (6, 5)] from ⟨Tryz.prog.fieldsOf 29, by kernel_rfl, by kernel_rfl⟩)
  eq := fun es h xs ys hx hy x y w => by
    cases h
    exact eq_of (m := 3) (by decide) rfl (by kernel_rfl) ty29_eq xs ys hx hy x y w
@[reducible] def ty31 : TI := ⟨10, 104, [.int .i64 0, .string .empty, .slice none 0 0, .int .i64 0, .int .i64 0, .int .i64 0, .int .i64 0, .int .i64 0, .int .i64 0, .int .u8 0], .st [(0, 26), (1, 9), (2, 22), (3, 30)], none⟩
theorem ty31_ok : TIok Tryz.prog 31 ty31 where
  info := ⟨Tryz.types.getD 31 default, .agg #[.int .i64 0, .string .empty, .slice none 0 0, .int .i64 0, .int .i64 0, .int .i64 0, .int .i64 0, .int .i64 0, .int .i64 0, .int .u8 0], by kernel_rfl, by kernel_rfl, by kernel_rfl, by kernel_rfl, rfl, rfl, rfl⟩
  kd := (show ∃ fields, Tryz.prog.underlying 31 = some (.struct fields) ∧ fields.toList.map (fun f => (f.offset, f.type)) = [(0, 26), (1, 9), (2, 22), (3, 30)] from ⟨Tryz.prog.fieldsOf 31, by kernel_rfl, by kernel_rfl⟩)
  eq := fun es h => by cases h
@[reducible] def ty33 : TI := ⟨1, 8, [.nilFunc], .sc, none⟩
theorem ty33_ok : TIok Tryz.prog 33 ty33 where
  info := ⟨Tryz.types.getD 33 default, .nilFunc, by kernel_rfl, by kernel_rfl, by kernel_rfl, by kernel_rfl, rfl, rfl, rfl⟩
  kd := (show ∃ d, Tryz.prog.underlying 33 = some d ∧ scD d = true from ⟨(Tryz.prog.underlying 33).getD .bool, by kernel_rfl, by kernel_rfl⟩)
  eq := fun es h => by cases h
@[reducible] def ty34 : TI := ⟨1, 8, [.nilFunc], .sc, none⟩
theorem ty34_ok : TIok Tryz.prog 34 ty34 where
  info := ⟨Tryz.types.getD 34 default, .nilFunc, by kernel_rfl, by kernel_rfl, by kernel_rfl, by kernel_rfl, rfl, rfl, rfl⟩
  kd := (show ∃ d, Tryz.prog.underlying 34 = some d ∧ scD d = true from ⟨(Tryz.prog.underlying 34).getD .bool, by kernel_rfl, by kernel_rfl⟩)
  eq := fun es h => by cases h
@[reducible] def ty35 : TI := ⟨1, 8, [.nilFunc], .sc, none⟩
theorem ty35_ok : TIok Tryz.prog 35 ty35 where
  info := ⟨Tryz.types.getD 35 default, .nilFunc, by kernel_rfl, by kernel_rfl, by kernel_rfl, by kernel_rfl, rfl, rfl, rfl⟩
  kd := (show ∃ d, Tryz.prog.underlying 35 = some d ∧ scD d = true from ⟨(Tryz.prog.underlying 35).getD .bool, by kernel_rfl, by kernel_rfl⟩)
  eq := fun es h => by cases h
@[reducible] def ty36 : TI := ⟨1, 8, [.nilFunc], .sc, none⟩
theorem ty36_ok : TIok Tryz.prog 36 ty36 where
  info := ⟨Tryz.types.getD 36 default, .nilFunc, by kernel_rfl, by kernel_rfl, by kernel_rfl, by kernel_rfl, rfl, rfl, rfl⟩
  kd := (show ∃ d, Tryz.prog.underlying 36 = some d ∧ scD d = true from ⟨(Tryz.prog.underlying 36).getD .bool, by kernel_rfl, by kernel_rfl⟩)
  eq := fun es h => by cases h
@[reducible] def ty55 : TI := ⟨3, 24, [.int .i64 0, .int .i64 0, .bool false], .st [(0, 3), (1, 3), (2, 4)], some [.int .i64, .int .i64, .bool]⟩
theorem ty55_eq : EqOK Tryz.prog ty55 55 [.int .i64, .int .i64, .bool] 2 := eq_struct (fs := Tryz.prog.fieldsOf 55) (by kernel_rfl) (by kernel_rfl) rfl (.of (show (Tryz.prog.fieldsOf 55).toList = [(Tryz.prog.fieldsOf 55).getD 0 default, (Tryz.prog.fieldsOf 55).getD 1 default, (Tryz.prog.fieldsOf 55).getD 2 default] by kernel_rfl) (.c (f := (Tryz.prog.fieldsOf 55).getD 0 default) (by kernel_rfl) (by kernel_rfl) (by kernel_rfl) ty3_ok ty3_eq rfl (.inr rfl) (.c (f := (Tryz.prog.fieldsOf 55).getD 1 default) (by kernel_rfl) (by kernel_rfl) (by kernel_rfl) ty3_ok ty3_eq rfl (.inr rfl) (.c (f := (Tryz.prog.fieldsOf 55).getD 2 default) (by kernel_rfl) (by kernel_rfl) (by kernel_rfl) ty4_ok ty4_eq rfl (.inr rfl) (.nil _)))))
theorem ty55_ok : TIok Tryz.prog 55 ty55 where
  info := ⟨Tryz.types.getD 55 default, .agg #[.int .i64 0, .int .i64 0, .bool false], by kernel_rfl, by kernel_rfl, by kernel_rfl, by kernel_rfl, rfl, rfl, rfl⟩
  kd := (show ∃ fields, Tryz.prog.underlying 55 = some (.struct fields) ∧ fields.toList.map (fun f => (f.offset, f.type)) = [(0, 3), (1, 3), (2, 4)] from ⟨Tryz.prog.fieldsOf 55, by kernel_rfl, by kernel_rfl⟩)
  eq := fun es h xs ys hx hy x y w => by
    cases h
    exact eq_of (m := 2) (by decide) rfl (by kernel_rfl) ty55_eq xs ys hx hy x y w
@[reducible] def ty56 : TI := ⟨1, 24, [.slice none 0 0], .sl 55, none⟩
theorem ty56_ok : TIok Tryz.prog 56 ty56 where
  info := ⟨Tryz.types.getD 56 default, .slice none 0 0, by kernel_rfl, by kernel_rfl, by kernel_rfl, by kernel_rfl, rfl, rfl, rfl⟩
  kd := (show Tryz.prog.underlying 56 = some (.slice 55) from by kernel_rfl)
  eq := fun es h => by cases h
@[reducible] def ty37 : TI := ⟨1, 24, [.slice none 0 0], .sl 56, none⟩
theorem ty37_ok : TIok Tryz.prog 37 ty37 where
  info := ⟨Tryz.types.getD 37 default, .slice none 0 0, by kernel_rfl, by kernel_rfl, by kernel_rfl, by kernel_rfl, rfl, rfl, rfl⟩
  kd := (show Tryz.prog.underlying 37 = some (.slice 56) from by kernel_rfl)
  eq := fun es h => by cases h
@[reducible] def ty38 : TI := ⟨1, 24, [.slice none 0 0], .st [(0, 37)], none⟩
theorem ty38_ok : TIok Tryz.prog 38 ty38 where
  info := ⟨Tryz.types.getD 38 default, .agg #[.slice none 0 0], by kernel_rfl, by kernel_rfl, by kernel_rfl, by kernel_rfl, rfl, rfl, rfl⟩
  kd := (show ∃ fields, Tryz.prog.underlying 38 = some (.struct fields) ∧ fields.toList.map (fun f => (f.offset, f.type)) = [(0, 37)] from ⟨Tryz.prog.fieldsOf 38, by kernel_rfl, by kernel_rfl⟩)
  eq := fun es h => by cases h
@[reducible] def ty39 : TI := ⟨1, 24, [.slice none 0 0], .st [(0, 37)], none⟩
theorem ty39_ok : TIok Tryz.prog 39 ty39 where
  info := ⟨Tryz.types.getD 39 default, .agg #[.slice none 0 0], by kernel_rfl, by kernel_rfl, by kernel_rfl, by kernel_rfl, rfl, rfl, rfl⟩
  kd := (show ∃ fields, Tryz.prog.underlying 39 = some (.struct fields) ∧ fields.toList.map (fun f => (f.offset, f.type)) = [(0, 37)] from ⟨Tryz.prog.fieldsOf 39, by kernel_rfl, by kernel_rfl⟩)
  eq := fun es h => by cases h
@[reducible] def ty40 : TI := ⟨1, 8, [.nilFunc], .sc, none⟩
theorem ty40_ok : TIok Tryz.prog 40 ty40 where
  info := ⟨Tryz.types.getD 40 default, .nilFunc, by kernel_rfl, by kernel_rfl, by kernel_rfl, by kernel_rfl, rfl, rfl, rfl⟩
  kd := (show ∃ d, Tryz.prog.underlying 40 = some d ∧ scD d = true from ⟨(Tryz.prog.underlying 40).getD .bool, by kernel_rfl, by kernel_rfl⟩)
  eq := fun es h => by cases h
@[reducible] def ty41 : TI := ⟨1, 8, [.nilFunc], .sc, none⟩
theorem ty41_ok : TIok Tryz.prog 41 ty41 where
  info := ⟨Tryz.types.getD 41 default, .nilFunc, by kernel_rfl, by kernel_rfl, by kernel_rfl, by kernel_rfl, rfl, rfl, rfl⟩
  kd := (show ∃ d, Tryz.prog.underlying 41 = some d ∧ scD d = true from ⟨(Tryz.prog.underlying 41).getD .bool, by kernel_rfl, by kernel_rfl⟩)
  eq := fun es h => by cases h
@[reducible] def ty42 : TI := ⟨1, 8, [.nilFunc], .sc, none⟩
theorem ty42_ok : TIok Tryz.prog 42 ty42 where
  info := ⟨Tryz.types.getD 42 default, .nilFunc, by kernel_rfl, by kernel_rfl, by kernel_rfl, by kernel_rfl, rfl, rfl, rfl⟩
  kd := (show ∃ d, Tryz.prog.underlying 42 = some d ∧ scD d = true from ⟨(Tryz.prog.underlying 42).getD .bool, by kernel_rfl, by kernel_rfl⟩)
  eq := fun es h => by cases h
@[reducible] def ty43 : TI := ⟨1, 8, [.int .i64 0], .int .i64, none⟩
theorem ty43_ok : TIok Tryz.prog 43 ty43 where
  info := ⟨Tryz.types.getD 43 default, .int .i64 0, by kernel_rfl, by kernel_rfl, by kernel_rfl, by kernel_rfl, rfl, rfl, rfl⟩
  kd := (show Tryz.prog.underlying 43 = some (.int .i64) from by kernel_rfl)
  eq := fun es h => by cases h
theorem ty43_eq : EqOK Tryz.prog ty43 43 [.int .i64] 1 := eq_int (by kernel_rfl) rfl
@[reducible] def ty44 : TI := ⟨1, 8, [.nilFunc], .sc, none⟩
theorem ty44_ok : TIok Tryz.prog 44 ty44 where
  info := ⟨Tryz.types.getD 44 default, .nilFunc, by kernel_rfl, by kernel_rfl, by kernel_rfl, by kernel_rfl, rfl, rfl, rfl⟩
  kd := (show ∃ d, Tryz.prog.underlying 44 = some d ∧ scD d = true from ⟨(Tryz.prog.underlying 44).getD .bool, by kernel_rfl, by kernel_rfl⟩)
  eq := fun es h => by cases h
@[reducible] def ty45 : TI := ⟨1, 8, [.nilFunc], .sc, none⟩
theorem ty45_ok : TIok Tryz.prog 45 ty45 where
  info := ⟨Tryz.types.getD 45 default, .nilFunc, by kernel_rfl, by kernel_rfl, by kernel_rfl, by kernel_rfl, rfl, rfl, rfl⟩
  kd := (show ∃ d, Tryz.prog.underlying 45 = some d ∧ scD d = true from ⟨(Tryz.prog.underlying 45).getD .bool, by kernel_rfl, by kernel_rfl⟩)
  eq := fun es h => by cases h
@[reducible] def ty46 : TI := ⟨1, 8, [.pointer none], .pt 64, none⟩
theorem ty46_ok : TIok Tryz.prog 46 ty46 where
  info := ⟨Tryz.types.getD 46 default, .pointer none, by kernel_rfl, by kernel_rfl, by kernel_rfl, by kernel_rfl, rfl, rfl, rfl⟩
  kd := (show Tryz.prog.underlying 46 = some (.pointer 64) from by kernel_rfl)
  eq := fun es h => by cases h
@[reducible] def ty47 : TI := ⟨1, 8, [.nilFunc], .sc, none⟩
theorem ty47_ok : TIok Tryz.prog 47 ty47 where
  info := ⟨Tryz.types.getD 47 default, .nilFunc, by kernel_rfl, by kernel_rfl, by kernel_rfl, by kernel_rfl, rfl, rfl, rfl⟩
  kd := (show ∃ d, Tryz.prog.underlying 47 = some d ∧ scD d = true from ⟨(Tryz.prog.underlying 47).getD .bool, by kernel_rfl, by kernel_rfl⟩)
  eq := fun es h => by cases h
@[reducible] def ty48 : TI := ⟨7, 56, [.int .i64 0, .int .i64 0, .int .i64 0, .int .i64 0, .int .i64 0, .int .i64 0, .int .i64 0], .st [(0, 3), (1, 3), (2, 3), (3, 3), (4, 3), (5, 3), (6, 3)], some [.int .i64, .int .i64, .int .i64, .int .i64, .int .i64, .int .i64, .int .i64]⟩
theorem ty48_eq : EqOK Tryz.prog ty48 48 [.int .i64, .int .i64, .int .i64, .int .i64, .int .i64, .int .i64, .int .i64] 2 := eq_struct (fs := Tryz.prog.fieldsOf 48) (by kernel_rfl) (by kernel_rfl) rfl (.of (show (Tryz.prog.fieldsOf 48).toList = [(Tryz.prog.fieldsOf 48).getD 0 default, (Tryz.prog.fieldsOf 48).getD 1 default, (Tryz.prog.fieldsOf 48).getD 2 default, (Tryz.prog.fieldsOf 48).getD 3 default, (Tryz.prog.fieldsOf 48).getD 4 default, (Tryz.prog.fieldsOf 48).getD 5 default, (Tryz.prog.fieldsOf 48).getD 6 default] by kernel_rfl) (.c (f := (Tryz.prog.fieldsOf 48).getD 0 default) (by kernel_rfl) (by kernel_rfl) (by kernel_rfl) ty3_ok ty3_eq rfl (.inr rfl) (.c (f := (Tryz.prog.fieldsOf 48).getD 1 default) (by kernel_rfl) (by kernel_rfl) (by kernel_rfl) ty3_ok ty3_eq rfl (.inr rfl) (.c (f := (Tryz.prog.fieldsOf 48).getD 2 default) (by kernel_rfl) (by kernel_rfl) (by kernel_rfl) ty3_ok ty3_eq rfl (.inr rfl) (.c (f := (Tryz.prog.fieldsOf 48).getD 3 default) (by kernel_rfl) (by kernel_rfl) (by kernel_rfl) ty3_ok ty3_eq rfl (.inr rfl) (.c (f := (Tryz.prog.fieldsOf 48).getD 4 default) (by kernel_rfl) (by kernel_rfl) (by kernel_rfl) ty3_ok ty3_eq rfl (.inr rfl) (.c (f := (Tryz.prog.fieldsOf 48).getD 5 default) (by kernel_rfl) (by kernel_rfl) (by kernel_rfl) ty3_ok ty3_eq rfl (.inr rfl) (.c (f := (Tryz.prog.fieldsOf 48).getD 6 default) (by kernel_rfl) (by kernel_rfl) (by kernel_rfl) ty3_ok ty3_eq rfl (.inr rfl) (.nil _)))))))))
theorem ty48_ok : TIok Tryz.prog 48 ty48 where
  info := ⟨Tryz.types.getD 48 default, .agg #[.int .i64 0, .int .i64 0, .int .i64 0, .int .i64 0, .int .i64 0, .int .i64 0, .int .i64 0], by kernel_rfl, by kernel_rfl, by kernel_rfl, by kernel_rfl, rfl, rfl, rfl⟩
  kd := (show ∃ fields, Tryz.prog.underlying 48 = some (.struct fields) ∧ fields.toList.map (fun f => (f.offset, f.type)) = [(0, 3), (1, 3), (2, 3), (3, 3), (4, 3), (5, 3), (6, 3)] from ⟨Tryz.prog.fieldsOf 48, by kernel_rfl, by kernel_rfl⟩)
  eq := fun es h xs ys hx hy x y w => by
    cases h
    exact eq_of (m := 2) (by decide) rfl (by kernel_rfl) ty48_eq xs ys hx hy x y w
@[reducible] def ty49 : TI := ⟨7, 56, [.int .i64 0, .int .i64 0, .int .i64 0, .int .i64 0, .int .i64 0, .int .i64 0, .int .i64 0], .st [(0, 3), (1, 3), (2, 3), (3, 3), (4, 3), (5, 3), (6, 3)], some [.int .i64, .int .i64, .int .i64, .int .i64, .int .i64, .int .i64, .int .i64]⟩
theorem ty49_eq : EqOK Tryz.prog ty49 49 [.int .i64, .int .i64, .int .i64, .int .i64, .int .i64, .int .i64, .int .i64] 2 := eq_struct (fs := Tryz.prog.fieldsOf 49) (by kernel_rfl) (by kernel_rfl) rfl (.of (show (Tryz.prog.fieldsOf 49).toList = [(Tryz.prog.fieldsOf 49).getD 0 default, (Tryz.prog.fieldsOf 49).getD 1 default, (Tryz.prog.fieldsOf 49).getD 2 default, (Tryz.prog.fieldsOf 49).getD 3 default, (Tryz.prog.fieldsOf 49).getD 4 default, (Tryz.prog.fieldsOf 49).getD 5 default, (Tryz.prog.fieldsOf 49).getD 6 default] by kernel_rfl) (.c (f := (Tryz.prog.fieldsOf 49).getD 0 default) (by kernel_rfl) (by kernel_rfl) (by kernel_rfl) ty3_ok ty3_eq rfl (.inr rfl) (.c (f := (Tryz.prog.fieldsOf 49).getD 1 default) (by kernel_rfl) (by kernel_rfl) (by kernel_rfl) ty3_ok ty3_eq rfl (.inr rfl) (.c (f := (Tryz.prog.fieldsOf 49).getD 2 default) (by kernel_rfl) (by kernel_rfl) (by kernel_rfl) ty3_ok ty3_eq rfl (.inr rfl) (.c (f := (Tryz.prog.fieldsOf 49).getD 3 default) (by kernel_rfl) (by kernel_rfl) (by kernel_rfl) ty3_ok ty3_eq rfl (.inr rfl) (.c (f := (Tryz.prog.fieldsOf 49).getD 4 default) (by kernel_rfl) (by kernel_rfl) (by kernel_rfl) ty3_ok ty3_eq rfl (.inr rfl) (.c (f := (Tryz.prog.fieldsOf 49).getD 5 default) (by kernel_rfl) (by kernel_rfl) (by kernel_rfl) ty3_ok ty3_eq rfl (.inr rfl) (.c (f := (Tryz.prog.fieldsOf 49).getD 6 default) (by kernel_rfl) (by kernel_rfl) (by kernel_rfl) ty3_ok ty3_eq rfl (.inr rfl) (.nil _)))))))))
theorem ty49_ok : TIok Tryz.prog 49 ty49 where
  info := ⟨Tryz.types.getD 49 default, .agg #[.int .i64 0, .int .i64 0, .int .i64 0, .int .i64 0, .int .i64 0, .int .i64 0, .int .i64 0], by kernel_rfl, by kernel_rfl, by kernel_rfl, by kernel_rfl, rfl, rfl, rfl⟩
  kd := (show ∃ fields, Tryz.prog.underlying 49 = some (.struct fields) ∧ fields.toList.map (fun f => (f.offset, f.type)) = [(0, 3), (1, 3), (2, 3), (3, 3), (4, 3), (5, 3), (6, 3)] from ⟨Tryz.prog.fieldsOf 49, by kernel_rfl, by kernel_rfl⟩)
  eq := fun es h xs ys hx hy x y w => by
    cases h
    exact eq_of (m := 2) (by decide) rfl (by kernel_rfl) ty49_eq xs ys hx hy x y w
@[reducible] def ty50 : TI := ⟨1, 8, [.nilFunc], .sc, none⟩
theorem ty50_ok : TIok Tryz.prog 50 ty50 where
  info := ⟨Tryz.types.getD 50 default, .nilFunc, by kernel_rfl, by kernel_rfl, by kernel_rfl, by kernel_rfl, rfl, rfl, rfl⟩
  kd := (show ∃ d, Tryz.prog.underlying 50 = some d ∧ scD d = true from ⟨(Tryz.prog.underlying 50).getD .bool, by kernel_rfl, by kernel_rfl⟩)
  eq := fun es h => by cases h
@[reducible] def ty51 : TI := ⟨1, 8, [.nilFunc], .sc, none⟩
theorem ty51_ok : TIok Tryz.prog 51 ty51 where
  info := ⟨Tryz.types.getD 51 default, .nilFunc, by kernel_rfl, by kernel_rfl, by kernel_rfl, by kernel_rfl, rfl, rfl, rfl⟩
  kd := (show ∃ d, Tryz.prog.underlying 51 = some d ∧ scD d = true from ⟨(Tryz.prog.underlying 51).getD .bool, by kernel_rfl, by kernel_rfl⟩)
  eq := fun es h => by cases h
@[reducible] def ty53 : TI := ⟨1, 8, [.nilFunc], .sc, none⟩
theorem ty53_ok : TIok Tryz.prog 53 ty53 where
  info := ⟨Tryz.types.getD 53 default, .nilFunc, by kernel_rfl, by kernel_rfl, by kernel_rfl, by kernel_rfl, rfl, rfl, rfl⟩
  kd := (show ∃ d, Tryz.prog.underlying 53 = some d ∧ scD d = true from ⟨(Tryz.prog.underlying 53).getD .bool, by kernel_rfl, by kernel_rfl⟩)
  eq := fun es h => by cases h
@[reducible] def ty54 : TI := ⟨3, 24, [.int .i64 0, .int .i64 0, .bool false], .st [(0, 3), (1, 3), (2, 4)], some [.int .i64, .int .i64, .bool]⟩
theorem ty54_eq : EqOK Tryz.prog ty54 54 [.int .i64, .int .i64, .bool] 2 := eq_struct (fs := Tryz.prog.fieldsOf 54) (by kernel_rfl) (by kernel_rfl) rfl (.of (show (Tryz.prog.fieldsOf 54).toList = [(Tryz.prog.fieldsOf 54).getD 0 default, (Tryz.prog.fieldsOf 54).getD 1 default, (Tryz.prog.fieldsOf 54).getD 2 default] by kernel_rfl) (.c (f := (Tryz.prog.fieldsOf 54).getD 0 default) (by kernel_rfl) (by kernel_rfl) (by kernel_rfl) ty3_ok ty3_eq rfl (.inr rfl) (.c (f := (Tryz.prog.fieldsOf 54).getD 1 default) (by kernel_rfl) (by kernel_rfl) (by kernel_rfl) ty3_ok ty3_eq rfl (.inr rfl) (.c (f := (Tryz.prog.fieldsOf 54).getD 2 default) (by kernel_rfl) (by kernel_rfl) (by kernel_rfl) ty4_ok ty4_eq rfl (.inr rfl) (.nil _)))))
theorem ty54_ok : TIok Tryz.prog 54 ty54 where
  info := ⟨Tryz.types.getD 54 default, .agg #[.int .i64 0, .int .i64 0, .bool false], by kernel_rfl, by kernel_rfl, by kernel_rfl, by kernel_rfl, rfl, rfl, rfl⟩
  kd := (show ∃ fields, Tryz.prog.underlying 54 = some (.struct fields) ∧ fields.toList.map (fun f => (f.offset, f.type)) = [(0, 3), (1, 3), (2, 4)] from ⟨Tryz.prog.fieldsOf 54, by kernel_rfl, by kernel_rfl⟩)
  eq := fun es h xs ys hx hy x y w => by
    cases h
    exact eq_of (m := 2) (by decide) rfl (by kernel_rfl) ty54_eq xs ys hx hy x y w
@[reducible] def ty57 : TI := ⟨1, 8, [.nilFunc], .sc, none⟩
theorem ty57_ok : TIok Tryz.prog 57 ty57 where
  info := ⟨Tryz.types.getD 57 default, .nilFunc, by kernel_rfl, by kernel_rfl, by kernel_rfl, by kernel_rfl, rfl, rfl, rfl⟩
  kd := (show ∃ d, Tryz.prog.underlying 57 = some d ∧ scD d = true from ⟨(Tryz.prog.underlying 57).getD .bool, by kernel_rfl, by kernel_rfl⟩)
  eq := fun es h => by cases h
@[reducible] def ty58 : TI := ⟨1, 8, [.pointer none], .pt 79, none⟩
theorem ty58_ok : TIok Tryz.prog 58 ty58 where
  info := ⟨Tryz.types.getD 58 default, .pointer none, by kernel_rfl, by kernel_rfl, by kernel_rfl, by kernel_rfl, rfl, rfl, rfl⟩
  kd := (show Tryz.prog.underlying 58 = some (.pointer 79) from by kernel_rfl)
  eq := fun es h => by cases h
@[reducible] def ty59 : TI := ⟨1, 8, [.nilFunc], .sc, none⟩
theorem ty59_ok : TIok Tryz.prog 59 ty59 where
  info := ⟨Tryz.types.getD 59 default, .nilFunc, by kernel_rfl, by kernel_rfl, by kernel_rfl, by kernel_rfl, rfl, rfl, rfl⟩
  kd := (show ∃ d, Tryz.prog.underlying 59 = some d ∧ scD d = true from ⟨(Tryz.prog.underlying 59).getD .bool, by kernel_rfl, by kernel_rfl⟩)
  eq := fun es h => by cases h
@[reducible] def ty60 : TI := ⟨1, 8, [.pointer none], .pt 81, none⟩
theorem ty60_ok : TIok Tryz.prog 60 ty60 where
  info := ⟨Tryz.types.getD 60 default, .pointer none, by kernel_rfl, by kernel_rfl, by kernel_rfl, by kernel_rfl, rfl, rfl, rfl⟩
  kd := (show Tryz.prog.underlying 60 = some (.pointer 81) from by kernel_rfl)
  eq := fun es h => by cases h
@[reducible] def ty61 : TI := ⟨1, 8, [.nilFunc], .sc, none⟩
theorem ty61_ok : TIok Tryz.prog 61 ty61 where
  info := ⟨Tryz.types.getD 61 default, .nilFunc, by kernel_rfl, by kernel_rfl, by kernel_rfl, by kernel_rfl, rfl, rfl, rfl⟩
  kd := (show ∃ d, Tryz.prog.underlying 61 = some d ∧ scD d = true from ⟨(Tryz.prog.underlying 61).getD .bool, by kernel_rfl, by kernel_rfl⟩)
  eq := fun es h => by cases h
@[reducible] def ty62 : TI := ⟨1, 8, [.map none], .sc, none⟩
theorem ty62_ok : TIok Tryz.prog 62 ty62 where
  info := ⟨Tryz.types.getD 62 default, .map none, by kernel_rfl, by kernel_rfl, by kernel_rfl, by kernel_rfl, rfl, rfl, rfl⟩
  kd := (show ∃ d, Tryz.prog.underlying 62 = some d ∧ scD d = true from ⟨(Tryz.prog.underlying 62).getD .bool, by kernel_rfl, by kernel_rfl⟩)
  eq := fun es h => by cases h
@[reducible] def ty63 : TI := ⟨10, 80, [.pointer none, .pointer none, .int .i64 0, .int .i64 0, .int .i64 0, .int .i64 0, .int .i64 0, .int .i64 0, .int .i64 0, .map none], .st [(0, 58), (1, 60), (2, 49), (9, 62)], none⟩
theorem ty63_ok : TIok Tryz.prog 63 ty63 where
  info := ⟨Tryz.types.getD 63 default, .agg #[.pointer none, .pointer none, .int .i64 0, .int .i64 0, .int .i64 0, .int .i64 0, .int .i64 0, .int .i64 0, .int .i64 0, .map none], by kernel_rfl, by kernel_rfl, by kernel_rfl, by kernel_rfl, rfl, rfl, rfl⟩
  kd := (show ∃ fields, Tryz.prog.underlying 63 = some (.struct fields) ∧ fields.toList.map (fun f => (f.offset, f.type)) = [(0, 58), (1, 60), (2, 49), (9, 62)] from ⟨Tryz.prog.fieldsOf 63, by kernel_rfl, by kernel_rfl⟩)
  eq := fun es h => by cases h
@[reducible] def ty64 : TI := ⟨10, 80, [.pointer none, .pointer none, .int .i64 0, .int .i64 0, .int .i64 0, .int .i64 0, .int .i64 0, .int .i64 0, .int .i64 0, .map none], .st [(0, 58), (1, 60), (2, 49), (9, 62)], none⟩
theorem ty64_ok : TIok Tryz.prog 64 ty64 where
  info := ⟨Tryz.types.getD 64 default, .agg #[.pointer none, .pointer none, .int .i64 0, .int .i64 0, .int .i64 0, .int .i64 0, .int .i64 0, .int .i64 0, .int .i64 0, .map none], by kernel_rfl, by kernel_rfl, by kernel_rfl, by kernel_rfl, rfl, rfl, rfl⟩
  kd := (show ∃ fields, Tryz.prog.underlying 64 = some (.struct fields) ∧ fields.toList.map (fun f => (f.offset, f.type)) = [(0, 58), (1, 60), (2, 49), (9, 62)] from ⟨Tryz.prog.fieldsOf 64, by kernel_rfl, by kernel_rfl⟩)
  eq := fun es h => by cases h
@[reducible] def ty65 : TI := ⟨1, 8, [.nilFunc], .sc, none⟩
theorem ty65_ok : TIok Tryz.prog 65 ty65 where
  info := ⟨Tryz.types.getD 65 default, .nilFunc, by kernel_rfl, by kernel_rfl, by kernel_rfl, by kernel_rfl, rfl, rfl, rfl⟩
  kd := (show ∃ d, Tryz.prog.underlying 65 = some d ∧ scD d = true from ⟨(Tryz.prog.underlying 65).getD .bool, by kernel_rfl, by kernel_rfl⟩)
  eq := fun es h => by cases h
@[reducible] def ty66 : TI := ⟨1, 8, [.nilFunc], .sc, none⟩
theorem ty66_ok : TIok Tryz.prog 66 ty66 where
  info := ⟨Tryz.types.getD 66 default, .nilFunc, by kernel_rfl, by kernel_rfl, by kernel_rfl, by kernel_rfl, rfl, rfl, rfl⟩
  kd := (show ∃ d, Tryz.prog.underlying 66 = some d ∧ scD d = true from ⟨(Tryz.prog.underlying 66).getD .bool, by kernel_rfl, by kernel_rfl⟩)
  eq := fun es h => by cases h
@[reducible] def ty67 : TI := ⟨1, 8, [.nilFunc], .sc, none⟩
theorem ty67_ok : TIok Tryz.prog 67 ty67 where
  info := ⟨Tryz.types.getD 67 default, .nilFunc, by kernel_rfl, by kernel_rfl, by kernel_rfl, by kernel_rfl, rfl, rfl, rfl⟩
  kd := (show ∃ d, Tryz.prog.underlying 67 = some d ∧ scD d = true from ⟨(Tryz.prog.underlying 67).getD .bool, by kernel_rfl, by kernel_rfl⟩)
  eq := fun es h => by cases h
@[reducible] def ty68 : TI := ⟨1, 8, [.nilFunc], .sc, none⟩
theorem ty68_ok : TIok Tryz.prog 68 ty68 where
  info := ⟨Tryz.types.getD 68 default, .nilFunc, by kernel_rfl, by kernel_rfl, by kernel_rfl, by kernel_rfl, rfl, rfl, rfl⟩
  kd := (show ∃ d, Tryz.prog.underlying 68 = some d ∧ scD d = true from ⟨(Tryz.prog.underlying 68).getD .bool, by kernel_rfl, by kernel_rfl⟩)
  eq := fun es h => by cases h
@[reducible] def ty69 : TI := ⟨1, 8, [.nilFunc], .sc, none⟩
theorem ty69_ok : TIok Tryz.prog 69 ty69 where
  info := ⟨Tryz.types.getD 69 default, .nilFunc, by kernel_rfl, by kernel_rfl, by kernel_rfl, by kernel_rfl, rfl, rfl, rfl⟩
  kd := (show ∃ d, Tryz.prog.underlying 69 = some d ∧ scD d = true from ⟨(Tryz.prog.underlying 69).getD .bool, by kernel_rfl, by kernel_rfl⟩)
  eq := fun es h => by cases h
@[reducible] def ty70 : TI := ⟨3, 40, [.int .i64 0, .int .i64 0, .slice none 0 0], .st [(0, 3), (1, 3), (2, 22)], none⟩
theorem ty70_ok : TIok Tryz.prog 70 ty70 where
  info := ⟨Tryz.types.getD 70 default, .agg #[.int .i64 0, .int .i64 0, .slice none 0 0], by kernel_rfl, by kernel_rfl, by kernel_rfl, by kernel_rfl, rfl, rfl, rfl⟩
  kd := (show ∃ fields, Tryz.prog.underlying 70 = some (.struct fields) ∧ fields.toList.map (fun f => (f.offset, f.type)) = [(0, 3), (1, 3), (2, 22)] from ⟨Tryz.prog.fieldsOf 70, by kernel_rfl, by kernel_rfl⟩)
  eq := fun es h => by cases h
@[reducible] def ty71 : TI := ⟨3, 40, [.int .i64 0, .int .i64 0, .slice none 0 0], .st [(0, 3), (1, 3), (2, 22)], none⟩
theorem ty71_ok : TIok Tryz.prog 71 ty71 where
  info := ⟨Tryz.types.getD 71 default, .agg #[.int .i64 0, .int .i64 0, .slice none 0 0], by kernel_rfl, by kernel_rfl, by kernel_rfl, by kernel_rfl, rfl, rfl, rfl⟩
  kd := (show ∃ fields, Tryz.prog.underlying 71 = some (.struct fields) ∧ fields.toList.map (fun f => (f.offset, f.type)) = [(0, 3), (1, 3), (2, 22)] from ⟨Tryz.prog.fieldsOf 71, by kernel_rfl, by kernel_rfl⟩)
  eq := fun es h => by cases h
@[reducible] def ty72 : TI := ⟨1, 8, [.pointer none], .pt 108, none⟩
theorem ty72_ok : TIok Tryz.prog 72 ty72 where
  info := ⟨Tryz.types.getD 72 default, .pointer none, by kernel_rfl, by kernel_rfl, by kernel_rfl, by kernel_rfl, rfl, rfl, rfl⟩
  kd := (show Tryz.prog.underlying 72 = some (.pointer 108) from by kernel_rfl)
  eq := fun es h => by cases h
@[reducible] def ty73 : TI := ⟨1, 8, [.nilFunc], .sc, none⟩
theorem ty73_ok : TIok Tryz.prog 73 ty73 where
  info := ⟨Tryz.types.getD 73 default, .nilFunc, by kernel_rfl, by kernel_rfl, by kernel_rfl, by kernel_rfl, rfl, rfl, rfl⟩
  kd := (show ∃ d, Tryz.prog.underlying 73 = some d ∧ scD d = true from ⟨(Tryz.prog.underlying 73).getD .bool, by kernel_rfl, by kernel_rfl⟩)
  eq := fun es h => by cases h
@[reducible] def ty75 : TI := ⟨1, 24, [.slice none 0 0], .sl 9, none⟩
theorem ty75_ok : TIok Tryz.prog 75 ty75 where
  info := ⟨Tryz.types.getD 75 default, .slice none 0 0, by kernel_rfl, by kernel_rfl, by kernel_rfl, by kernel_rfl, rfl, rfl, rfl⟩
  kd := (show Tryz.prog.underlying 75 = some (.slice 9) from by kernel_rfl)
  eq := fun es h => by cases h
@[reducible] def ty76 : TI := ⟨1, 24, [.slice none 0 0], .st [(0, 75)], none⟩
theorem ty76_ok : TIok Tryz.prog 76 ty76 where
  info := ⟨Tryz.types.getD 76 default, .agg #[.slice none 0 0], by kernel_rfl, by kernel_rfl, by kernel_rfl, by kernel_rfl, rfl, rfl, rfl⟩
  kd := (show ∃ fields, Tryz.prog.underlying 76 = some (.struct fields) ∧ fields.toList.map (fun f => (f.offset, f.type)) = [(0, 75)] from ⟨Tryz.prog.fieldsOf 76, by kernel_rfl, by kernel_rfl⟩)
  eq := fun es h => by cases h
@[reducible] def ty77 : TI := ⟨1, 24, [.slice none 0 0], .st [(0, 75)], none⟩
theorem ty77_ok : TIok Tryz.prog 77 ty77 where
  info := ⟨Tryz.types.getD 77 default, .agg #[.slice none 0 0], by kernel_rfl, by kernel_rfl, by kernel_rfl, by kernel_rfl, rfl, rfl, rfl⟩
  kd := (show ∃ fields, Tryz.prog.underlying 77 = some (.struct fields) ∧ fields.toList.map (fun f => (f.offset, f.type)) = [(0, 75)] from ⟨Tryz.prog.fieldsOf 77, by kernel_rfl, by kernel_rfl⟩)
  eq := fun es h => by cases h
@[reducible] def ty74 : TI := ⟨1, 8, [.map none], .sc, none⟩
theorem ty74_ok : TIok Tryz.prog 74 ty74 where
  info := ⟨Tryz.types.getD 74 default, .map none, by kernel_rfl, by kernel_rfl, by kernel_rfl, by kernel_rfl, rfl, rfl, rfl⟩
  kd := (show ∃ d, Tryz.prog.underlying 74 = some d ∧ scD d = true from ⟨(Tryz.prog.underlying 74).getD .bool, by kernel_rfl, by kernel_rfl⟩)
  eq := fun es h => by cases h
@[reducible] def ty78 : TI := ⟨8, 112, [.int .i64 0, .int .i64 0, .slice none 0 0, .int .i64 0, .pointer none, .slice none 0 0, .map none, .slice none 0 0], .st [(0, 71), (3, 3), (4, 72), (5, 77), (6, 74), (7, 75)], none⟩
theorem ty78_ok : TIok Tryz.prog 78 ty78 where
  info := ⟨Tryz.types.getD 78 default, .agg #[.int .i64 0, .int .i64 0, .slice none 0 0, .int .i64 0, .pointer none, .slice none 0 0, .map none, .slice none 0 0], by kernel_rfl, by kernel_rfl, by kernel_rfl, by kernel_rfl, rfl, rfl, rfl⟩
  kd := (show ∃ fields, Tryz.prog.underlying 78 = some (.struct fields) ∧ fields.toList.map (fun f => (f.offset, f.type)) = [(0, 71), (3, 3), (4, 72), (5, 77), (6, 74), (7, 75)] from ⟨Tryz.prog.fieldsOf 78, by kernel_rfl, by kernel_rfl⟩)
  eq := fun es h => by cases h
@[reducible] def ty79 : TI := ⟨8, 112, [.int .i64 0, .int .i64 0, .slice none 0 0, .int .i64 0, .pointer none, .slice none 0 0, .map none, .slice none 0 0], .st [(0, 71), (3, 3), (4, 72), (5, 77), (6, 74), (7, 75)], none⟩
theorem ty79_ok : TIok Tryz.prog 79 ty79 where
  info := ⟨Tryz.types.getD 79 default, .agg #[.int .i64 0, .int .i64 0, .slice none 0 0, .int .i64 0, .pointer none, .slice none 0 0, .map none, .slice none 0 0], by kernel_rfl, by kernel_rfl, by kernel_rfl, by kernel_rfl, rfl, rfl, rfl⟩
  kd := (show ∃ fields, Tryz.prog.underlying 79 = some (.struct fields) ∧ fields.toList.map (fun f => (f.offset, f.type)) = [(0, 71), (3, 3), (4, 72), (5, 77), (6, 74), (7, 75)] from ⟨Tryz.prog.fieldsOf 79, by kernel_rfl, by kernel_rfl⟩)
  eq := fun es h => by cases h
@[reducible] def ty80 : TI := ⟨3, 40, [.int .i64 0, .int .i64 0, .slice none 0 0], .st [(0, 71)], none⟩
theorem ty80_ok : TIok Tryz.prog 80 ty80 where
  info := ⟨Tryz.types.getD 80 default, .agg #[.int .i64 0, .int .i64 0, .slice none 0 0], by kernel_rfl, by kernel_rfl, by kernel_rfl, by kernel_rfl, rfl, rfl, rfl⟩
  kd := (show ∃ fields, Tryz.prog.underlying 80 = some (.struct fields) ∧ fields.toList.map (fun f => (f.offset, f.type)) = [(0, 71)] from ⟨Tryz.prog.fieldsOf 80, by kernel_rfl, by kernel_rfl⟩)
  eq := fun es h => by cases h
@[reducible] def ty81 : TI := ⟨3, 40, [.int .i64 0, .int .i64 0, .slice none 0 0], .st [(0, 71)], none⟩
theorem ty81_ok : TIok Tryz.prog 81 ty81 where
  info := ⟨Tryz.types.getD 81 default, .agg #[.int .i64 0, .int .i64 0, .slice none 0 0], by kernel_rfl, by kernel_rfl, by kernel_rfl, by kernel_rfl, rfl, rfl, rfl⟩
  kd := (show ∃ fields, Tryz.prog.underlying 81 = some (.struct fields) ∧ fields.toList.map (fun f => (f.offset, f.type)) = [(0, 71)] from ⟨Tryz.prog.fieldsOf 81, by kernel_rfl, by kernel_rfl⟩)
  eq := fun es h => by cases h
@[reducible] def ty82 : TI := ⟨4, 32, [.int .i64 0, .int .i64 0, .int .i64 0, .int .i64 0], .st [(0, 3), (1, 3), (2, 3), (3, 3)], some [.int .i64, .int .i64, .int .i64, .int .i64]⟩
theorem ty82_eq : EqOK Tryz.prog ty82 82 [.int .i64, .int .i64, .int .i64, .int .i64] 2 := eq_struct (fs := Tryz.prog.fieldsOf 82) (by kernel_rfl) (by kernel_rfl) rfl (.of (show (Tryz.prog.fieldsOf 82).toList = [(Tryz.prog.fieldsOf 82).getD 0 default, (Tryz.prog.fieldsOf 82).getD 1 default, (Tryz.prog.fieldsOf 82).getD 2 default, (Tryz.prog.fieldsOf 82).getD 3 default] by kernel_rfl) (.c (f := (Tryz.prog.fieldsOf 82).getD 0 default) (by kernel_rfl) (by kernel_rfl) (by kernel_rfl) ty3_ok ty3_eq rfl (.inr rfl) (.c (f := (Tryz.prog.fieldsOf 82).getD 1 default) (by kernel_rfl) (by kernel_rfl) (by kernel_rfl) ty3_ok ty3_eq rfl (.inr rfl) (.c (f := (Tryz.prog.fieldsOf 82).getD 2 default) (by kernel_rfl) (by kernel_rfl) (by kernel_rfl) ty3_ok ty3_eq rfl (.inr rfl) (.c (f := (Tryz.prog.fieldsOf 82).getD 3 default) (by kernel_rfl) (by kernel_rfl) (by kernel_rfl) ty3_ok ty3_eq rfl (.inr rfl) (.nil _))))))
theorem ty82_ok : TIok Tryz.prog 82 ty82 where
  info := ⟨Tryz.types.getD 82 default, .agg #[.int .i64 0, .int .i64 0, .int .i64 0, .int .i64 0], by kernel_rfl, by kernel_rfl, by kernel_rfl, by kernel_rfl, rfl, rfl, rfl⟩
  kd := (show ∃ fields, Tryz.prog.underlying 82 = some (.struct fields) ∧ fields.toList.map (fun f => (f.offset, f.type)) = [(0, 3), (1, 3), (2, 3), (3, 3)] from ⟨Tryz.prog.fieldsOf 82, by kernel_rfl, by kernel_rfl⟩)
  eq := fun es h xs ys hx hy x y w => by
    cases h
    exact eq_of (m := 2) (by decide) rfl (by kernel_rfl) ty82_eq xs ys hx hy x y w
@[reducible] def ty83 : TI := ⟨4, 32, [.int .i64 0, .int .i64 0, .int .i64 0, .int .i64 0], .st [(0, 3), (1, 3), (2, 3), (3, 3)], some [.int .i64, .int .i64, .int .i64, .int .i64]⟩
theorem ty83_eq : EqOK Tryz.prog ty83 83 [.int .i64, .int .i64, .int .i64, .int .i64] 2 := eq_struct (fs := Tryz.prog.fieldsOf 83) (by kernel_rfl) (by kernel_rfl) rfl (.of (show (Tryz.prog.fieldsOf 83).toList = [(Tryz.prog.fieldsOf 83).getD 0 default, (Tryz.prog.fieldsOf 83).getD 1 default, (Tryz.prog.fieldsOf 83).getD 2 default, (Tryz.prog.fieldsOf 83).getD 3 default] by kernel_rfl) (.c (f := (Tryz.prog.fieldsOf 83).getD 0 default) (by kernel_rfl) (by kernel_rfl) (by kernel_rfl) ty3_ok ty3_eq rfl (.inr rfl) (.c (f := (Tryz.prog.fieldsOf 83).getD 1 default) (by kernel_rfl) (by kernel_rfl) (by kernel_rfl) ty3_ok ty3_eq rfl (.inr rfl) (.c (f := (Tryz.prog.fieldsOf 83).getD 2 default) (by kernel_rfl) (by kernel_rfl) (by kernel_rfl) ty3_ok ty3_eq rfl (.inr rfl) (.c (f := (Tryz.prog.fieldsOf 83).getD 3 default) (by kernel_rfl) (by kernel_rfl) (by kernel_rfl) ty3_ok ty3_eq rfl (.inr rfl) (.nil _))))))
theorem ty83_ok : TIok Tryz.prog 83 ty83 where
  info := ⟨Tryz.types.getD 83 default, .agg #[.int .i64 0, .int .i64 0, .int .i64 0, .int .i64 0], by kernel_rfl, by kernel_rfl, by kernel_rfl, by kernel_rfl, rfl, rfl, rfl⟩
  kd := (show ∃ fields, Tryz.prog.underlying 83 = some (.struct fields) ∧ fields.toList.map (fun f => (f.offset, f.type)) = [(0, 3), (1, 3), (2, 3), (3, 3)] from ⟨Tryz.prog.fieldsOf 83, by kernel_rfl, by kernel_rfl⟩)
  eq := fun es h xs ys hx hy x y w => by
    cases h
    exact eq_of (m := 2) (by decide) rfl (by kernel_rfl) ty83_eq xs ys hx hy x y w
@[reducible] def ty85 : TI := ⟨1, 8, [.nilFunc], .sc, none⟩
theorem ty85_ok : TIok Tryz.prog 85 ty85 where
  info := ⟨Tryz.types.getD 85 default, .nilFunc, by kernel_rfl, by kernel_rfl, by kernel_rfl, by kernel_rfl, rfl, rfl, rfl⟩
  kd := (show ∃ d, Tryz.prog.underlying 85 = some d ∧ scD d = true from ⟨(Tryz.prog.underlying 85).getD .bool, by kernel_rfl, by kernel_rfl⟩)
  eq := fun es h => by cases h
@[reducible] def ty120 : TI := ⟨2, 16, [.int .i64 0, .int .i64 0], .st [(0, 3), (1, 3)], some [.int .i64, .int .i64]⟩
theorem ty120_eq : EqOK Tryz.prog ty120 120 [.int .i64, .int .i64] 2 := eq_struct (fs := Tryz.prog.fieldsOf 120) (by kernel_rfl) (by kernel_rfl) rfl (.of (show (Tryz.prog.fieldsOf 120).toList = [(Tryz.prog.fieldsOf 120).getD 0 default, (Tryz.prog.fieldsOf 120).getD 1 default] by kernel_rfl) (.c (f := (Tryz.prog.fieldsOf 120).getD 0 default) (by kernel_rfl) (by kernel_rfl) (by kernel_rfl) ty3_ok ty3_eq rfl (.inr rfl) (.c (f := (Tryz.prog.fieldsOf 120).getD 1 default) (by kernel_rfl) (by kernel_rfl) (by kernel_rfl) ty3_ok ty3_eq rfl (.inr rfl) (.nil _))))
theorem ty120_ok : TIok Tryz.prog 120 ty120 where
  info := ⟨Tryz.types.getD 120 default, .agg #[.int .i64 0, .int .i64 0], by kernel_rfl, by kernel_rfl, by kernel_rfl, by kernel_rfl, rfl, rfl, rfl⟩
  kd := (show ∃ fields, Tryz.prog.underlying 120 = some (.struct fields) ∧ fields.toList.map (fun f => (f.offset, f.type)) = [(0, 3), (1, 3)] from ⟨Tryz.prog.fieldsOf 120, by kernel_rfl, by kernel_rfl⟩)
  eq := fun es h xs ys hx hy x y w => by
    cases h
    exact eq_of (m := 2) (by decide) rfl (by kernel_rfl) ty120_eq xs ys hx hy x y w
@[reducible] def ty179 : TI := ⟨4, 32, [.int .i64 0, .int .i64 0, .int .i64 0, .int .i64 0], .st [(0, 120), (2, 120)], some [.int .i64, .int .i64, .int .i64, .int .i64]⟩
theorem ty179_eq : EqOK Tryz.prog ty179 179 [.int .i64, .int .i64, .int .i64, .int .i64] 3 := eq_struct (fs := Tryz.prog.fieldsOf 179) (by kernel_rfl) (by kernel_rfl) rfl (.of (show (Tryz.prog.fieldsOf 179).toList = [(Tryz.prog.fieldsOf 179).getD 0 default, (Tryz.prog.fieldsOf 179).getD 1 default] by kernel_rfl) (.c (f := (Tryz.prog.fieldsOf 179).getD 0 default) (by kernel_rfl) (by kernel_rfl) (by kernel_rfl) ty120_ok ty120_eq rfl (.inl rfl) (.c (f := (Tryz.prog.fieldsOf 179).getD 1 default) (by kernel_rfl) (by kernel_rfl) (by kernel_rfl) ty120_ok ty120_eq rfl (.inl rfl) (.nil _))))
theorem ty179_ok : TIok Tryz.prog 179 ty179 where
  info := ⟨Tryz.types.getD 179 default, .agg #[.int .i64 0, .int .i64 0, .int .i64 0, .int .i64 0], by kernel_rfl, by kernel_rfl, by kernel_rfl, by kernel_rfl, rfl, rfl, rfl⟩
  kd := (show ∃ fields, Tryz.prog.underlying 179 = some (.struct fields) ∧ fields.toList.map (fun f => (f.offset, f.type)) = [(0, 120), (2, 120)] from ⟨Tryz.prog.fieldsOf 179, by kernel_rfl, by kernel_rfl⟩)
  eq := fun es h xs ys hx hy x y w => by
    cases h
    exact eq_of (m := 3) (by decide) rfl (by kernel_rfl) ty179_eq xs ys hx hy x y w
@[reducible] def ty86 : TI := ⟨1, 24, [.slice none 0 0], .sl 179, none⟩
theorem ty86_ok : TIok Tryz.prog 86 ty86 where
  info := ⟨Tryz.types.getD 86 default, .slice none 0 0, by kernel_rfl, by kernel_rfl, by kernel_rfl, by kernel_rfl, rfl, rfl, rfl⟩
  kd := (show Tryz.prog.underlying 86 = some (.slice 179) from by kernel_rfl)
  eq := fun es h => by cases h
@[reducible] def ty88 : TI := ⟨1, 8, [.nilFunc], .sc, none⟩
theorem ty88_ok : TIok Tryz.prog 88 ty88 where
  info := ⟨Tryz.types.getD 88 default, .nilFunc, by kernel_rfl, by kernel_rfl, by kernel_rfl, by kernel_rfl, rfl, rfl, rfl⟩
  kd := (show ∃ d, Tryz.prog.underlying 88 = some d ∧ scD d = true from ⟨(Tryz.prog.underlying 88).getD .bool, by kernel_rfl, by kernel_rfl⟩)
  eq := fun es h => by cases h
@[reducible] def ty89 : TI := ⟨6, 48, [.int .i64 0, .int .i64 0, .int .i64 0, .int .i64 0, .int .i64 0, .int .i64 0], .st [(0, 3), (1, 3), (2, 3), (3, 3), (4, 3), (5, 3)], some [.int .i64, .int .i64, .int .i64, .int .i64, .int .i64, .int .i64]⟩
theorem ty89_eq : EqOK Tryz.prog ty89 89 [.int .i64, .int .i64, .int .i64, .int .i64, .int .i64, .int .i64] 2 := eq_struct (fs := Tryz.prog.fieldsOf 89) (by kernel_rfl) (by kernel_rfl) rfl (.of (show (Tryz.prog.fieldsOf 89).toList = [(Tryz.prog.fieldsOf 89).getD 0 default, (Tryz.prog.fieldsOf 89).getD 1 default, (Tryz.prog.fieldsOf 89).getD 2 default, (Tryz.prog.fieldsOf 89).getD 3 default, (Tryz.prog.fieldsOf 89).getD 4 default, (Tryz.prog.fieldsOf 89).getD 5 default] by kernel_rfl) (.c (f := (Tryz.prog.fieldsOf 89).getD 0 default) (by kernel_rfl) (by kernel_rfl) (by kernel_rfl) ty3_ok ty3_eq rfl (.inr rfl) (.c (f := (Tryz.prog.fieldsOf 89).getD 1 default) (by kernel_rfl) (by kernel_rfl) (by kernel_rfl) ty3_ok ty3_eq rfl (.inr rfl) (.c (f := (Tryz.prog.fieldsOf 89).getD 2 default) (by kernel_rfl) (by kernel_rfl) (by kernel_rfl) ty3_ok ty3_eq rfl (.inr rfl) (.c (f := (Tryz.prog.fieldsOf 89).getD 3 default) (by kernel_rfl) (by kernel_rfl) (by kernel_rfl) ty3_ok ty3_eq rfl (.inr rfl) (.c (f := (Tryz.prog.fieldsOf 89).getD 4 default) (by kernel_rfl) (by kernel_rfl) (by kernel_rfl) ty3_ok ty3_eq rfl (.inr rfl) (.c (f := (Tryz.prog.fieldsOf 89).getD 5 default) (by kernel_rfl) (by kernel_rfl) (by kernel_rfl) ty3_ok ty3_eq rfl (.inr rfl) (.nil _))))))))
theorem ty89_ok : TIok Tryz.prog 89 ty89 where
  info := ⟨Tryz.types.getD 89 default, .agg #[.int .i64 0, .int .i64 0, .int .i64 0, .int .i64 0, .int .i64 0, .int .i64 0], by kernel_rfl, by kernel_rfl, by kernel_rfl, by kernel_rfl, rfl, rfl, rfl⟩
  kd := (show ∃ fields, Tryz.prog.underlying 89 = some (.struct fields) ∧ fields.toList.map (fun f => (f.offset, f.type)) = [(0, 3), (1, 3), (2, 3), (3, 3), (4, 3), (5, 3)] from ⟨Tryz.prog.fieldsOf 89, by kernel_rfl, by kernel_rfl⟩)
  eq := fun es h xs ys hx hy x y w => by
    cases h
    exact eq_of (m := 2) (by decide) rfl (by kernel_rfl) ty89_eq xs ys hx hy x y w
@[reducible] def ty90 : TI := ⟨6, 48, [.int .i64 0, .int .i64 0, .int .i64 0, .int .i64 0, .int .i64 0, .int .i64 0], .st [(0, 3), (1, 3), (2, 3), (3, 3), (4, 3), (5, 3)], some [.int .i64, .int .i64, .int .i64, .int .i64, .int .i64, .int .i64]⟩
theorem ty90_eq : EqOK Tryz.prog ty90 90 [.int .i64, .int .i64, .int .i64, .int .i64, .int .i64, .int .i64] 2 := eq_struct (fs := Tryz.prog.fieldsOf 90) (by kernel_rfl) (by kernel_rfl) rfl (.of (show (Tryz.prog.fieldsOf 90).toList = [(Tryz.prog.fieldsOf 90).getD 0 default, (Tryz.prog.fieldsOf 90).getD 1 default, (Tryz.prog.fieldsOf 90).getD 2 default, (Tryz.prog.fieldsOf 90).getD 3 default, (Tryz.prog.fieldsOf 90).getD 4 default, (Tryz.prog.fieldsOf 90).getD 5 default] by kernel_rfl) (.c (f := (Tryz.prog.fieldsOf 90).getD 0 default) (by kernel_rfl) (by kernel_rfl) (by kernel_rfl) ty3_ok ty3_eq rfl (.inr rfl) (.c (f := (Tryz.prog.fieldsOf 90).getD 1 default) (by kernel_rfl) (by kernel_rfl) (by kernel_rfl) ty3_ok ty3_eq rfl (.inr rfl) (.c (f := (Tryz.prog.fieldsOf 90).getD 2 default) (by kernel_rfl) (by kernel_rfl) (by kernel_rfl) ty3_ok ty3_eq rfl (.inr rfl) (.c (f := (Tryz.prog.fieldsOf 90).getD 3 default) (by kernel_rfl) (by kernel_rfl) (by kernel_rfl) ty3_ok ty3_eq rfl (.inr rfl) (.c (f := (Tryz.prog.fieldsOf 90).getD 4 default) (by kernel_rfl) (by kernel_rfl) (by kernel_rfl) ty3_ok ty3_eq rfl (.inr rfl) (.c (f := (Tryz.prog.fieldsOf 90).getD 5 default) (by kernel_rfl) (by kernel_rfl) (by kernel_rfl) ty3_ok ty3_eq rfl (.inr rfl) (.nil _))))))))
theorem ty90_ok : TIok Tryz.prog 90 ty90 where
  info := ⟨Tryz.types.getD 90 default, .agg #[.int .i64 0, .int .i64 0, .int .i64 0, .int .i64 0, .int .i64 0, .int .i64 0], by kernel_rfl, by kernel_rfl, by kernel_rfl, by kernel_rfl, rfl, rfl, rfl⟩
  kd := (show ∃ fields, Tryz.prog.underlying 90 = some (.struct fields) ∧ fields.toList.map (fun f => (f.offset, f.type)) = [(0, 3), (1, 3), (2, 3), (3, 3), (4, 3), (5, 3)] from ⟨Tryz.prog.fieldsOf 90, by kernel_rfl, by kernel_rfl⟩)
  eq := fun es h xs ys hx hy x y w => by
    cases h
    exact eq_of (m := 2) (by decide) rfl (by kernel_rfl) ty90_eq xs ys hx hy x y w
@[reducible] def ty92 : TI := ⟨1, 8, [.nilFunc], .sc, none⟩
theorem ty92_ok : TIok Tryz.prog 92 ty92 where
  info := ⟨Tryz.types.getD 92 default, .nilFunc, by kernel_rfl, by kernel_rfl, by kernel_rfl, by kernel_rfl, rfl, rfl, rfl⟩
  kd := (show ∃ d, Tryz.prog.underlying 92 = some d ∧ scD d = true from ⟨(Tryz.prog.underlying 92).getD .bool, by kernel_rfl, by kernel_rfl⟩)
  eq := fun es h => by cases h
@[reducible] def ty94 : TI := ⟨1, 8, [.nilFunc], .sc, none⟩
theorem ty94_ok : TIok Tryz.prog 94 ty94 where
  info := ⟨Tryz.types.getD 94 default, .nilFunc, by kernel_rfl, by kernel_rfl, by kernel_rfl, by kernel_rfl, rfl, rfl, rfl⟩
  kd := (show ∃ d, Tryz.prog.underlying 94 = some d ∧ scD d = true from ⟨(Tryz.prog.underlying 94).getD .bool, by kernel_rfl, by kernel_rfl⟩)
  eq := fun es h => by cases h
@[reducible] def ty95 : TI := ⟨1, 8, [.nilFunc], .sc, none⟩
theorem ty95_ok : TIok Tryz.prog 95 ty95 where
  info := ⟨Tryz.types.getD 95 default, .nilFunc, by kernel_rfl, by kernel_rfl, by kernel_rfl, by kernel_rfl, rfl, rfl, rfl⟩
  kd := (show ∃ d, Tryz.prog.underlying 95 = some d ∧ scD d = true from ⟨(Tryz.prog.underlying 95).getD .bool, by kernel_rfl, by kernel_rfl⟩)
  eq := fun es h => by cases h
@[reducible] def ty96 : TI := ⟨1, 24, [.slice none 0 0], .sl 83, none⟩
theorem ty96_ok : TIok Tryz.prog 96 ty96 where
  info := ⟨Tryz.types.getD 96 default, .slice none 0 0, by kernel_rfl, by kernel_rfl, by kernel_rfl, by kernel_rfl, rfl, rfl, rfl⟩
  kd := (show Tryz.prog.underlying 96 = some (.slice 83) from by kernel_rfl)
  eq := fun es h => by cases h
@[reducible] def ty97 : TI := ⟨1, 8, [.nilFunc], .sc, none⟩
theorem ty97_ok : TIok Tryz.prog 97 ty97 where
  info := ⟨Tryz.types.getD 97 default, .nilFunc, by kernel_rfl, by kernel_rfl, by kernel_rfl, by kernel_rfl, rfl, rfl, rfl⟩
  kd := (show ∃ d, Tryz.prog.underlying 97 = some d ∧ scD d = true from ⟨(Tryz.prog.underlying 97).getD .bool, by kernel_rfl, by kernel_rfl⟩)
  eq := fun es h => by cases h
@[reducible] def ty98 : TI := ⟨1, 8, [.nilFunc], .sc, none⟩
theorem ty98_ok : TIok Tryz.prog 98 ty98 where
  info := ⟨Tryz.types.getD 98 default, .nilFunc, by kernel_rfl, by kernel_rfl, by kernel_rfl, by kernel_rfl, rfl, rfl, rfl⟩
  kd := (show ∃ d, Tryz.prog.underlying 98 = some d ∧ scD d = true from ⟨(Tryz.prog.underlying 98).getD .bool, by kernel_rfl, by kernel_rfl⟩)
  eq := fun es h => by cases h
@[reducible] def ty99 : TI := ⟨1, 8, [.nilFunc], .sc, none⟩
theorem ty99_ok : TIok Tryz.prog 99 ty99 where
  info := ⟨Tryz.types.getD 99 default, .nilFunc, by kernel_rfl, by kernel_rfl, by kernel_rfl, by kernel_rfl, rfl, rfl, rfl⟩
  kd := (show ∃ d, Tryz.prog.underlying 99 = some d ∧ scD d = true from ⟨(Tryz.prog.underlying 99).getD .bool, by kernel_rfl, by kernel_rfl⟩)
  eq := fun es h => by cases h
@[reducible] def ty100 : TI := ⟨1, 8, [.nilFunc], .sc, none⟩
theorem ty100_ok : TIok Tryz.prog 100 ty100 where
  info := ⟨Tryz.types.getD 100 default, .nilFunc, by kernel_rfl, by kernel_rfl, by kernel_rfl, by kernel_rfl, rfl, rfl, rfl⟩
  kd := (show ∃ d, Tryz.prog.underlying 100 = some d ∧ scD d = true from ⟨(Tryz.prog.underlying 100).getD .bool, by kernel_rfl, by kernel_rfl⟩)
  eq := fun es h => by cases h
@[reducible] def ty102 : TI := ⟨1, 8, [.nilFunc], .sc, none⟩
theorem ty102_ok : TIok Tryz.prog 102 ty102 where
  info := ⟨Tryz.types.getD 102 default, .nilFunc, by kernel_rfl, by kernel_rfl, by kernel_rfl, by kernel_rfl, rfl, rfl, rfl⟩
  kd := (show ∃ d, Tryz.prog.underlying 102 = some d ∧ scD d = true from ⟨(Tryz.prog.underlying 102).getD .bool, by kernel_rfl, by kernel_rfl⟩)
  eq := fun es h => by cases h
@[reducible] def ty103 : TI := ⟨1, 8, [.nilFunc], .sc, none⟩
theorem ty103_ok : TIok Tryz.prog 103 ty103 where
  info := ⟨Tryz.types.getD 103 default, .nilFunc, by kernel_rfl, by kernel_rfl, by kernel_rfl, by kernel_rfl, rfl, rfl, rfl⟩
  kd := (show ∃ d, Tryz.prog.underlying 103 = some d ∧ scD d = true from ⟨(Tryz.prog.underlying 103).getD .bool, by kernel_rfl, by kernel_rfl⟩)
  eq := fun es h => by cases h
@[reducible] def ty104 : TI := ⟨1, 8, [.nilFunc], .sc, none⟩
theorem ty104_ok : TIok Tryz.prog 104 ty104 where
  info := ⟨Tryz.types.getD 104 default, .nilFunc, by kernel_rfl, by kernel_rfl, by kernel_rfl, by kernel_rfl, rfl, rfl, rfl⟩
  kd := (show ∃ d, Tryz.prog.underlying 104 = some d ∧ scD d = true from ⟨(Tryz.prog.underlying 104).getD .bool, by kernel_rfl, by kernel_rfl⟩)
  eq := fun es h => by cases h
@[reducible] def ty105 : TI := ⟨1, 8, [.int .u64 0], .int .u64, none⟩
theorem ty105_ok : TIok Tryz.prog 105 ty105 where
  info := ⟨Tryz.types.getD 105 default, .int .u64 0, by kernel_rfl, by kernel_rfl, by kernel_rfl, by kernel_rfl, rfl, rfl, rfl⟩
  kd := (show Tryz.prog.underlying 105 = some (.int .u64) from by kernel_rfl)
  eq := fun es h => by cases h
theorem ty105_eq : EqOK Tryz.prog ty105 105 [.int .u64] 1 := eq_int (by kernel_rfl) rfl
@[reducible] def ty110 : TI := ⟨2, 16, [.int .i64 0, .int .i64 0], .st [(0, 3), (1, 3)], some [.int .i64, .int .i64]⟩
theorem ty110_eq : EqOK Tryz.prog ty110 110 [.int .i64, .int .i64] 2 := eq_struct (fs := Tryz.prog.fieldsOf 110) (by kernel_rfl) (by kernel_rfl) rfl (.of (show (Tryz.prog.fieldsOf 110).toList = [(Tryz.prog.fieldsOf 110).getD 0 default, (Tryz.prog.fieldsOf 110).getD 1 default] by kernel_rfl) (.c (f := (Tryz.prog.fieldsOf 110).getD 0 default) (by kernel_rfl) (by kernel_rfl) (by kernel_rfl) ty3_ok ty3_eq rfl (.inr rfl) (.c (f := (Tryz.prog.fieldsOf 110).getD 1 default) (by kernel_rfl) (by kernel_rfl) (by kernel_rfl) ty3_ok ty3_eq rfl (.inr rfl) (.nil _))))
theorem ty110_ok : TIok Tryz.prog 110 ty110 where
  info := ⟨Tryz.types.getD 110 default, .agg #[.int .i64 0, .int .i64 0], by kernel_rfl, by kernel_rfl, by kernel_rfl, by kernel_rfl, rfl, rfl, rfl⟩
  kd := (show ∃ fields, Tryz.prog.underlying 110 = some (.struct fields) ∧ fields.toList.map (fun f => (f.offset, f.type)) = [(0, 3), (1, 3)] from ⟨Tryz.prog.fieldsOf 110, by kernel_rfl, by kernel_rfl⟩)
  eq := fun es h xs ys hx hy x y w => by
    cases h
    exact eq_of (m := 2) (by decide) rfl (by kernel_rfl) ty110_eq xs ys hx hy x y w
@[reducible] def ty106 : TI := ⟨1, 24, [.slice none 0 0], .sl 110, none⟩
theorem ty106_ok : TIok Tryz.prog 106 ty106 where
  info := ⟨Tryz.types.getD 106 default, .slice none 0 0, by kernel_rfl, by kernel_rfl, by kernel_rfl, by kernel_rfl, rfl, rfl, rfl⟩
  kd := (show Tryz.prog.underlying 106 = some (.slice 110) from by kernel_rfl)
  eq := fun es h => by cases h
@[reducible] def ty107 : TI := ⟨3, 40, [.int .i64 0, .int .i64 0, .slice none 0 0], .st [(0, 3), (1, 3), (2, 106)], none⟩
theorem ty107_ok : TIok Tryz.prog 107 ty107 where
  info := ⟨Tryz.types.getD 107 default, .agg #[.int .i64 0, .int .i64 0, .slice none 0 0], by kernel_rfl, by kernel_rfl, by kernel_rfl, by kernel_rfl, rfl, rfl, rfl⟩
  kd := (show ∃ fields, Tryz.prog.underlying 107 = some (.struct fields) ∧ fields.toList.map (fun f => (f.offset, f.type)) = [(0, 3), (1, 3), (2, 106)] from ⟨Tryz.prog.fieldsOf 107, by kernel_rfl, by kernel_rfl⟩)
  eq := fun es h => by cases h
@[reducible] def ty108 : TI := ⟨3, 40, [.int .i64 0, .int .i64 0, .slice none 0 0], .st [(0, 3), (1, 3), (2, 106)], none⟩
theorem ty108_ok : TIok Tryz.prog 108 ty108 where
  info := ⟨Tryz.types.getD 108 default, .agg #[.int .i64 0, .int .i64 0, .slice none 0 0], by kernel_rfl, by kernel_rfl, by kernel_rfl, by kernel_rfl, rfl, rfl, rfl⟩
  kd := (show ∃ fields, Tryz.prog.underlying 108 = some (.struct fields) ∧ fields.toList.map (fun f => (f.offset, f.type)) = [(0, 3), (1, 3), (2, 106)] from ⟨Tryz.prog.fieldsOf 108, by kernel_rfl, by kernel_rfl⟩)
  eq := fun es h => by cases h
@[reducible] def ty109 : TI := ⟨2, 16, [.int .i64 0, .int .i64 0], .st [(0, 3), (1, 3)], some [.int .i64, .int .i64]⟩
theorem ty109_eq : EqOK Tryz.prog ty109 109 [.int .i64, .int .i64] 2 := eq_struct (fs := Tryz.prog.fieldsOf 109) (by kernel_rfl) (by kernel_rfl) rfl (.of (show (Tryz.prog.fieldsOf 109).toList = [(Tryz.prog.fieldsOf 109).getD 0 default, (Tryz.prog.fieldsOf 109).getD 1 default] by kernel_rfl) (.c (f := (Tryz.prog.fieldsOf 109).getD 0 default) (by kernel_rfl) (by kernel_rfl) (by kernel_rfl) ty3_ok ty3_eq rfl (.inr rfl) (.c (f := (Tryz.prog.fieldsOf 109).getD 1 default) (by kernel_rfl) (by kernel_rfl) (by kernel_rfl) ty3_ok ty3_eq rfl (.inr rfl) (.nil _))))
theorem ty109_ok : TIok Tryz.prog 109 ty109 where
  info := ⟨Tryz.types.getD 109 default, .agg #[.int .i64 0, .int .i64 0], by kernel_rfl, by kernel_rfl, by kernel_rfl, by kernel_rfl, rfl, rfl, rfl⟩
  kd := (show ∃ fields, Tryz.prog.underlying 109 = some (.struct fields) ∧ fields.toList.map (fun f => (f.offset, f.type)) = [(0, 3), (1, 3)] from ⟨Tryz.prog.fieldsOf 109, by kernel_rfl, by kernel_rfl⟩)
  eq := fun es h xs ys hx hy x y w => by
    cases h
    exact eq_of (m := 2) (by decide) rfl (by kernel_rfl) ty109_eq xs ys hx hy x y w
@[reducible] def ty112 : TI := ⟨1, 8, [.nilFunc], .sc, none⟩
theorem ty112_ok : TIok Tryz.prog 112 ty112 where
  info := ⟨Tryz.types.getD 112 default, .nilFunc, by kernel_rfl, by kernel_rfl, by kernel_rfl, by kernel_rfl, rfl, rfl, rfl⟩
  kd := (show ∃ d, Tryz.prog.underlying 112 = some d ∧ scD d = true from ⟨(Tryz.prog.underlying 112).getD .bool, by kernel_rfl, by kernel_rfl⟩)
  eq := fun es h => by cases h
@[reducible] def ty113 : TI := ⟨1, 8, [.nilFunc], .sc, none⟩
theorem ty113_ok : TIok Tryz.prog 113 ty113 where
  info := ⟨Tryz.types.getD 113 default, .nilFunc, by kernel_rfl, by kernel_rfl, by kernel_rfl, by kernel_rfl, rfl, rfl, rfl⟩
  kd := (show ∃ d, Tryz.prog.underlying 113 = some d ∧ scD d = true from ⟨(Tryz.prog.underlying 113).getD .bool, by kernel_rfl, by kernel_rfl⟩)
  eq := fun es h => by cases h
@[reducible] def ty115 : TI := ⟨1, 8, [.nilFunc], .sc, none⟩
theorem ty115_ok : TIok Tryz.prog 115 ty115 where
  info := ⟨Tryz.types.getD 115 default, .nilFunc, by kernel_rfl, by kernel_rfl, by kernel_rfl, by kernel_rfl, rfl, rfl, rfl⟩
  kd := (show ∃ d, Tryz.prog.underlying 115 = some d ∧ scD d = true from ⟨(Tryz.prog.underlying 115).getD .bool, by kernel_rfl, by kernel_rfl⟩)
  eq := fun es h => by cases h
@[reducible] def ty116 : TI := ⟨1, 8, [.nilFunc], .sc, none⟩
theorem ty116_ok : TIok Tryz.prog 116 ty116 where
  info := ⟨Tryz.types.getD 116 default, .nilFunc, by kernel_rfl, by kernel_rfl, by kernel_rfl, by kernel_rfl, rfl, rfl, rfl⟩
  kd := (show ∃ d, Tryz.prog.underlying 116 = some d ∧ scD d = true from ⟨(Tryz.prog.underlying 116).getD .bool, by kernel_rfl, by kernel_rfl⟩)
  eq := fun es h => by cases h
@[reducible] def ty195 : TI := ⟨7, 56, [.int .i64 0, .int .i64 0, .int .i64 0, .int .i64 0, .int .i64 0, .int .i64 0, .bool false], .st [(0, 120), (2, 120), (4, 120), (6, 4)], some [.int .i64, .int .i64, .int .i64, .int .i64, .int .i64, .int .i64, .bool]⟩
theorem ty195_eq : EqOK Tryz.prog ty195 195 [.int .i64, .int .i64, .int .i64, .int .i64, .int .i64, .int .i64, .bool] 3 := eq_struct (fs := Tryz.prog.fieldsOf 195) (by kernel_rfl) (by kernel_rfl) rfl (.of (show (Tryz.prog.fieldsOf 195).toList = [(Tryz.prog.fieldsOf 195).getD 0 default, (Tryz.prog.fieldsOf 195).getD 1 default, (Tryz.prog.fieldsOf 195).getD 2 default, (Tryz.prog.fieldsOf 195).getD 3 default] by kernel_rfl) (.c (f := (Tryz.prog.fieldsOf 195).getD 0 default) (by kernel_rfl) (by kernel_rfl) (by kernel_rfl) ty120_ok ty120_eq rfl (.inl rfl) (.c (f := (Tryz.prog.fieldsOf 195).getD 1 default) (by kernel_rfl) (by kernel_rfl) (by kernel_rfl) ty120_ok ty120_eq rfl (.inl rfl) (.c (f := (Tryz.prog.fieldsOf 195).getD 2 default) (by kernel_rfl) (by kernel_rfl) (by kernel_rfl) ty120_ok ty120_eq rfl (.inl rfl) (.c (f := (Tryz.prog.fieldsOf 195).getD 3 default) (by kernel_rfl) (by kernel_rfl) (by kernel_rfl) ty4_ok ty4_eq.up rfl (.inr rfl) (.nil _))))))
theorem ty195_ok : TIok Tryz.prog 195 ty195 where
  info := ⟨Tryz.types.getD 195 default, .agg #[.int .i64 0, .int .i64 0, .int .i64 0, .int .i64 0, .int .i64 0, .int .i64 0, .bool false], by kernel_rfl, by kernel_rfl, by kernel_rfl, by kernel_rfl, rfl, rfl, rfl⟩
  kd := (show ∃ fields, Tryz.prog.underlying 195 = some (.struct fields) ∧ fields.toList.map (fun f => (f.offset, f.type)) = [(0, 120), (2, 120), (4, 120), (6, 4)] from ⟨Tryz.prog.fieldsOf 195, by kernel_rfl, by kernel_rfl⟩)
  eq := fun es h xs ys hx hy x y w => by
    cases h
    exact eq_of (m := 3) (by decide) rfl (by kernel_rfl) ty195_eq xs ys hx hy x y w
@[reducible] def ty175 : TI := ⟨1, 24, [.slice none 0 0], .sl 195, none⟩
theorem ty175_ok : TIok Tryz.prog 175 ty175 where
  info := ⟨Tryz.types.getD 175 default, .slice none 0 0, by kernel_rfl, by kernel_rfl, by kernel_rfl, by kernel_rfl, rfl, rfl, rfl⟩
  kd := (show Tryz.prog.underlying 175 = some (.slice 195) from by kernel_rfl)
  eq := fun es h => by cases h
@[reducible] def ty117 : TI := ⟨1, 24, [.slice none 0 0], .sl 175, none⟩
theorem ty117_ok : TIok Tryz.prog 117 ty117 where
  info := ⟨Tryz.types.getD 117 default, .slice none 0 0, by kernel_rfl, by kernel_rfl, by kernel_rfl, by kernel_rfl, rfl, rfl, rfl⟩
  kd := (show Tryz.prog.underlying 117 = some (.slice 175) from by kernel_rfl)
  eq := fun es h => by cases h
@[reducible] def ty118 : TI := ⟨1, 8, [.nilFunc], .sc, none⟩
theorem ty118_ok : TIok Tryz.prog 118 ty118 where
  info := ⟨Tryz.types.getD 118 default, .nilFunc, by kernel_rfl, by kernel_rfl, by kernel_rfl, by kernel_rfl, rfl, rfl, rfl⟩
  kd := (show ∃ d, Tryz.prog.underlying 118 = some d ∧ scD d = true from ⟨(Tryz.prog.underlying 118).getD .bool, by kernel_rfl, by kernel_rfl⟩)
  eq := fun es h => by cases h
@[reducible] def ty119 : TI := ⟨2, 16, [.int .i64 0, .int .i64 0], .st [(0, 3), (1, 3)], some [.int .i64, .int .i64]⟩
theorem ty119_eq : EqOK Tryz.prog ty119 119 [.int .i64, .int .i64] 2 := eq_struct (fs := Tryz.prog.fieldsOf 119) (by kernel_rfl) (by kernel_rfl) rfl (.of (show (Tryz.prog.fieldsOf 119).toList = [(Tryz.prog.fieldsOf 119).getD 0 default, (Tryz.prog.fieldsOf 119).getD 1 default] by kernel_rfl) (.c (f := (Tryz.prog.fieldsOf 119).getD 0 default) (by kernel_rfl) (by kernel_rfl) (by kernel_rfl) ty3_ok ty3_eq rfl (.inr rfl) (.c (f := (Tryz.prog.fieldsOf 119).getD 1 default) (by kernel_rfl) (by kernel_rfl) (by kernel_rfl) ty3_ok ty3_eq rfl (.inr rfl) (.nil _))))
theorem ty119_ok : TIok Tryz.prog 119 ty119 where
  info := ⟨Tryz.types.getD 119 default, .agg #[.int .i64 0, .int .i64 0], by kernel_rfl, by kernel_rfl, by kernel_rfl, by kernel_rfl, rfl, rfl, rfl⟩
  kd := (show ∃ fields, Tryz.prog.underlying 119 = some (.struct fields) ∧ fields.toList.map (fun f => (f.offset, f.type)) = [(0, 3), (1, 3)] from ⟨Tryz.prog.fieldsOf 119, by kernel_rfl, by kernel_rfl⟩)
  eq := fun es h xs ys hx hy x y w => by
    cases h
    exact eq_of (m := 2) (by decide) rfl (by kernel_rfl) ty119_eq xs ys hx hy x y w
@[reducible] def ty122 : TI := ⟨1, 8, [.nilFunc], .sc, none⟩
theorem ty122_ok : TIok Tryz.prog 122 ty122 where
  info := ⟨Tryz.types.getD 122 default, .nilFunc, by kernel_rfl, by kernel_rfl, by kernel_rfl, by kernel_rfl, rfl, rfl, rfl⟩
  kd := (show ∃ d, Tryz.prog.underlying 122 = some d ∧ scD d = true from ⟨(Tryz.prog.underlying 122).getD .bool, by kernel_rfl, by kernel_rfl⟩)
  eq := fun es h => by cases h
@[reducible] def ty123 : TI := ⟨1, 8, [.nilFunc], .sc, none⟩
theorem ty123_ok : TIok Tryz.prog 123 ty123 where
  info := ⟨Tryz.types.getD 123 default, .nilFunc, by kernel_rfl, by kernel_rfl, by kernel_rfl, by kernel_rfl, rfl, rfl, rfl⟩
  kd := (show ∃ d, Tryz.prog.underlying 123 = some d ∧ scD d = true from ⟨(Tryz.prog.underlying 123).getD .bool, by kernel_rfl, by kernel_rfl⟩)
  eq := fun es h => by cases h
@[reducible] def ty124 : TI := ⟨1, 8, [.pointer none], .pt 146, none⟩
theorem ty124_ok : TIok Tryz.prog 124 ty124 where
  info := ⟨Tryz.types.getD 124 default, .pointer none, by kernel_rfl, by kernel_rfl, by kernel_rfl, by kernel_rfl, rfl, rfl, rfl⟩
  kd := (show Tryz.prog.underlying 124 = some (.pointer 146) from by kernel_rfl)
  eq := fun es h => by cases h
@[reducible] def ty125 : TI := ⟨1, 8, [.nilFunc], .sc, none⟩
theorem ty125_ok : TIok Tryz.prog 125 ty125 where
  info := ⟨Tryz.types.getD 125 default, .nilFunc, by kernel_rfl, by kernel_rfl, by kernel_rfl, by kernel_rfl, rfl, rfl, rfl⟩
  kd := (show ∃ d, Tryz.prog.underlying 125 = some d ∧ scD d = true from ⟨(Tryz.prog.underlying 125).getD .bool, by kernel_rfl, by kernel_rfl⟩)
  eq := fun es h => by cases h
@[reducible] def ty126 : TI := ⟨1, 8, [.nilFunc], .sc, none⟩
theorem ty126_ok : TIok Tryz.prog 126 ty126 where
  info := ⟨Tryz.types.getD 126 default, .nilFunc, by kernel_rfl, by kernel_rfl, by kernel_rfl, by kernel_rfl, rfl, rfl, rfl⟩
  kd := (show ∃ d, Tryz.prog.underlying 126 = some d ∧ scD d = true from ⟨(Tryz.prog.underlying 126).getD .bool, by kernel_rfl, by kernel_rfl⟩)
  eq := fun es h => by cases h
@[reducible] def ty129 : TI := ⟨1, 8, [.nilFunc], .sc, none⟩
theorem ty129_ok : TIok Tryz.prog 129 ty129 where
  info := ⟨Tryz.types.getD 129 default, .nilFunc, by kernel_rfl, by kernel_rfl, by kernel_rfl, by kernel_rfl, rfl, rfl, rfl⟩
  kd := (show ∃ d, Tryz.prog.underlying 129 = some d ∧ scD d = true from ⟨(Tryz.prog.underlying 129).getD .bool, by kernel_rfl, by kernel_rfl⟩)
  eq := fun es h => by cases h
@[reducible] def ty130 : TI := ⟨2, 32, [.int .i64 0, .slice none 0 0], .st [(0, 3), (1, 22)], none⟩
theorem ty130_ok : TIok Tryz.prog 130 ty130 where
  info := ⟨Tryz.types.getD 130 default, .agg #[.int .i64 0, .slice none 0 0], by kernel_rfl, by kernel_rfl, by kernel_rfl, by kernel_rfl, rfl, rfl, rfl⟩
  kd := (show ∃ fields, Tryz.prog.underlying 130 = some (.struct fields) ∧ fields.toList.map (fun f => (f.offset, f.type)) = [(0, 3), (1, 22)] from ⟨Tryz.prog.fieldsOf 130, by kernel_rfl, by kernel_rfl⟩)
  eq := fun es h => by cases h
@[reducible] def ty131 : TI := ⟨2, 32, [.int .i64 0, .slice none 0 0], .st [(0, 3), (1, 22)], none⟩
theorem ty131_ok : TIok Tryz.prog 131 ty131 where
  info := ⟨Tryz.types.getD 131 default, .agg #[.int .i64 0, .slice none 0 0], by kernel_rfl, by kernel_rfl, by kernel_rfl, by kernel_rfl, rfl, rfl, rfl⟩
  kd := (show ∃ fields, Tryz.prog.underlying 131 = some (.struct fields) ∧ fields.toList.map (fun f => (f.offset, f.type)) = [(0, 3), (1, 22)] from ⟨Tryz.prog.fieldsOf 131, by kernel_rfl, by kernel_rfl⟩)
  eq := fun es h => by cases h
@[reducible] def ty132 : TI := ⟨0, 0, [], .st [], some []⟩
theorem ty132_eq : EqOK Tryz.prog ty132 132 [] 1 := eq_struct (fs := Tryz.prog.fieldsOf 132) (by kernel_rfl) (by kernel_rfl) rfl (.of (show (Tryz.prog.fieldsOf 132).toList = [] by kernel_rfl) (.nil _))
theorem ty132_ok : TIok Tryz.prog 132 ty132 where
  info := ⟨Tryz.types.getD 132 default, .agg #[], by kernel_rfl, by kernel_rfl, by kernel_rfl, by kernel_rfl, rfl, rfl, rfl⟩
  kd := (show ∃ fields, Tryz.prog.underlying 132 = some (.struct fields) ∧ fields.toList.map (fun f => (f.offset, f.type)) = [] from ⟨Tryz.prog.fieldsOf 132, by kernel_rfl, by kernel_rfl⟩)
  eq := fun es h xs ys hx hy x y w => by
    cases h
    exact eq_of (m := 1) (by decide) rfl (by kernel_rfl) ty132_eq xs ys hx hy x y w
@[reducible] def ty133 : TI := ⟨0, 0, [], .st [], some []⟩
theorem ty133_eq : EqOK Tryz.prog ty133 133 [] 1 := eq_struct (fs := Tryz.prog.fieldsOf 133) (by kernel_rfl) (by kernel_rfl) rfl (.of (show (Tryz.prog.fieldsOf 133).toList = [] by kernel_rfl) (.nil _))
theorem ty133_ok : TIok Tryz.prog 133 ty133 where
  info := ⟨Tryz.types.getD 133 default, .agg #[], by kernel_rfl, by kernel_rfl, by kernel_rfl, by kernel_rfl, rfl, rfl, rfl⟩
  kd := (show ∃ fields, Tryz.prog.underlying 133 = some (.struct fields) ∧ fields.toList.map (fun f => (f.offset, f.type)) = [] from ⟨Tryz.prog.fieldsOf 133, by kernel_rfl, by kernel_rfl⟩)
  eq := fun es h xs ys hx hy x y w => by
    cases h
    exact eq_of (m := 1) (by decide) rfl (by kernel_rfl) ty133_eq xs ys hx hy x y w
@[reducible] def ty134 : TI := ⟨0, 0, [], .st [], some []⟩
theorem ty134_eq : EqOK Tryz.prog ty134 134 [] 1 := eq_struct (fs := Tryz.prog.fieldsOf 134) (by kernel_rfl) (by kernel_rfl) rfl (.of (show (Tryz.prog.fieldsOf 134).toList = [] by kernel_rfl) (.nil _))
theorem ty134_ok : TIok Tryz.prog 134 ty134 where
  info := ⟨Tryz.types.getD 134 default, .agg #[], by kernel_rfl, by kernel_rfl, by kernel_rfl, by kernel_rfl, rfl, rfl, rfl⟩
  kd := (show ∃ fields, Tryz.prog.underlying 134 = some (.struct fields) ∧ fields.toList.map (fun f => (f.offset, f.type)) = [] from ⟨Tryz.prog.fieldsOf 134, by kernel_rfl, by kernel_rfl⟩)
  eq := fun es h xs ys hx hy x y w => by
    cases h
    exact eq_of (m := 1) (by decide) rfl (by kernel_rfl) ty134_eq xs ys hx hy x y w
@[reducible] def ty135 : TI := ⟨1, 4, [.int .u32 0], .int .u32, none⟩
theorem ty135_ok : TIok Tryz.prog 135 ty135 where
  info := ⟨Tryz.types.getD 135 default, .int .u32 0, by kernel_rfl, by kernel_rfl, by kernel_rfl, by kernel_rfl, rfl, rfl, rfl⟩
  kd := (show Tryz.prog.underlying 135 = some (.int .u32) from by kernel_rfl)
  eq := fun es h => by cases h
theorem ty135_eq : EqOK Tryz.prog ty135 135 [.int .u32] 1 := eq_int (by kernel_rfl) rfl
@[reducible] def ty147 : TI := ⟨1, 8, [.nilFunc], .sc, none⟩
theorem ty147_ok : TIok Tryz.prog 147 ty147 where
  info := ⟨Tryz.types.getD 147 default, .nilFunc, by kernel_rfl, by kernel_rfl, by kernel_rfl, by kernel_rfl, rfl, rfl, rfl⟩
  kd := (show ∃ d, Tryz.prog.underlying 147 = some d ∧ scD d = true from ⟨(Tryz.prog.underlying 147).getD .bool, by kernel_rfl, by kernel_rfl⟩)
  eq := fun es h => by cases h
@[reducible] def ty148 : TI := ⟨1, 8, [.nilFunc], .sc, none⟩
theorem ty148_ok : TIok Tryz.prog 148 ty148 where
  info := ⟨Tryz.types.getD 148 default, .nilFunc, by kernel_rfl, by kernel_rfl, by kernel_rfl, by kernel_rfl, rfl, rfl, rfl⟩
  kd := (show ∃ d, Tryz.prog.underlying 148 = some d ∧ scD d = true from ⟨(Tryz.prog.underlying 148).getD .bool, by kernel_rfl, by kernel_rfl⟩)
  eq := fun es h => by cases h
@[reducible] def ty150 : TI := ⟨1, 8, [.nilFunc], .sc, none⟩
theorem ty150_ok : TIok Tryz.prog 150 ty150 where
  info := ⟨Tryz.types.getD 150 default, .nilFunc, by kernel_rfl, by kernel_rfl, by kernel_rfl, by kernel_rfl, rfl, rfl, rfl⟩
  kd := (show ∃ d, Tryz.prog.underlying 150 = some d ∧ scD d = true from ⟨(Tryz.prog.underlying 150).getD .bool, by kernel_rfl, by kernel_rfl⟩)
  eq := fun es h => by cases h
@[reducible] def ty151 : TI := ⟨1, 8, [.nilFunc], .sc, none⟩
theorem ty151_ok : TIok Tryz.prog 151 ty151 where
  info := ⟨Tryz.types.getD 151 default, .nilFunc, by kernel_rfl, by kernel_rfl, by kernel_rfl, by kernel_rfl, rfl, rfl, rfl⟩
  kd := (show ∃ d, Tryz.prog.underlying 151 = some d ∧ scD d = true from ⟨(Tryz.prog.underlying 151).getD .bool, by kernel_rfl, by kernel_rfl⟩)
  eq := fun es h => by cases h
@[reducible] def ty152 : TI := ⟨1, 8, [.pointer none], .pt 77, none⟩
theorem ty152_ok : TIok Tryz.prog 152 ty152 where
  info := ⟨Tryz.types.getD 152 default, .pointer none, by kernel_rfl, by kernel_rfl, by kernel_rfl, by kernel_rfl, rfl, rfl, rfl⟩
  kd := (show Tryz.prog.underlying 152 = some (.pointer 77) from by kernel_rfl)
  eq := fun es h => by cases h
@[reducible] def ty153 : TI := ⟨1, 8, [.nilFunc], .sc, none⟩
theorem ty153_ok : TIok Tryz.prog 153 ty153 where
  info := ⟨Tryz.types.getD 153 default, .nilFunc, by kernel_rfl, by kernel_rfl, by kernel_rfl, by kernel_rfl, rfl, rfl, rfl⟩
  kd := (show ∃ d, Tryz.prog.underlying 153 = some d ∧ scD d = true from ⟨(Tryz.prog.underlying 153).getD .bool, by kernel_rfl, by kernel_rfl⟩)
  eq := fun es h => by cases h
@[reducible] def ty154 : TI := ⟨1, 8, [.nilFunc], .sc, none⟩
theorem ty154_ok : TIok Tryz.prog 154 ty154 where
  info := ⟨Tryz.types.getD 154 default, .nilFunc, by kernel_rfl, by kernel_rfl, by kernel_rfl, by kernel_rfl, rfl, rfl, rfl⟩
  kd := (show ∃ d, Tryz.prog.underlying 154 = some d ∧ scD d = true from ⟨(Tryz.prog.underlying 154).getD .bool, by kernel_rfl, by kernel_rfl⟩)
  eq := fun es h => by cases h
@[reducible] def ty155 : TI := ⟨1, 8, [.nilFunc], .sc, none⟩
theorem ty155_ok : TIok Tryz.prog 155 ty155 where
  info := ⟨Tryz.types.getD 155 default, .nilFunc, by kernel_rfl, by kernel_rfl, by kernel_rfl, by kernel_rfl, rfl, rfl, rfl⟩
  kd := (show ∃ d, Tryz.prog.underlying 155 = some d ∧ scD d = true from ⟨(Tryz.prog.underlying 155).getD .bool, by kernel_rfl, by kernel_rfl⟩)
  eq := fun es h => by cases h
@[reducible] def ty156 : TI := ⟨1, 8, [.nilFunc], .sc, none⟩
theorem ty156_ok : TIok Tryz.prog 156 ty156 where
  info := ⟨Tryz.types.getD 156 default, .nilFunc, by kernel_rfl, by kernel_rfl, by kernel_rfl, by kernel_rfl, rfl, rfl, rfl⟩
  kd := (show ∃ d, Tryz.prog.underlying 156 = some d ∧ scD d = true from ⟨(Tryz.prog.underlying 156).getD .bool, by kernel_rfl, by kernel_rfl⟩)
  eq := fun es h => by cases h
@[reducible] def ty157 : TI := ⟨1, 8, [.nilFunc], .sc, none⟩
theorem ty157_ok : TIok Tryz.prog 157 ty157 where
  info := ⟨Tryz.types.getD 157 default, .nilFunc, by kernel_rfl, by kernel_rfl, by kernel_rfl, by kernel_rfl, rfl, rfl, rfl⟩
  kd := (show ∃ d, Tryz.prog.underlying 157 = some d ∧ scD d = true from ⟨(Tryz.prog.underlying 157).getD .bool, by kernel_rfl, by kernel_rfl⟩)
  eq := fun es h => by cases h
@[reducible] def ty159 : TI := ⟨1, 8, [.nilFunc], .sc, none⟩
theorem ty159_ok : TIok Tryz.prog 159 ty159 where
  info := ⟨Tryz.types.getD 159 default, .nilFunc, by kernel_rfl, by kernel_rfl, by kernel_rfl, by kernel_rfl, rfl, rfl, rfl⟩
  kd := (show ∃ d, Tryz.prog.underlying 159 = some d ∧ scD d = true from ⟨(Tryz.prog.underlying 159).getD .bool, by kernel_rfl, by kernel_rfl⟩)
  eq := fun es h => by cases h
@[reducible] def ty160 : TI := ⟨2, 16, [.int .i64 0, .int .i64 0], .st [(0, 3), (1, 3)], some [.int .i64, .int .i64]⟩
theorem ty160_eq : EqOK Tryz.prog ty160 160 [.int .i64, .int .i64] 2 := eq_struct (fs := Tryz.prog.fieldsOf 160) (by kernel_rfl) (by kernel_rfl) rfl (.of (show (Tryz.prog.fieldsOf 160).toList = [(Tryz.prog.fieldsOf 160).getD 0 default, (Tryz.prog.fieldsOf 160).getD 1 default] by kernel_rfl) (.c (f := (Tryz.prog.fieldsOf 160).getD 0 default) (by kernel_rfl) (by kernel_rfl) (by kernel_rfl) ty3_ok ty3_eq rfl (.inr rfl) (.c (f := (Tryz.prog.fieldsOf 160).getD 1 default) (by kernel_rfl) (by kernel_rfl) (by kernel_rfl) ty3_ok ty3_eq rfl (.inr rfl) (.nil _))))
theorem ty160_ok : TIok Tryz.prog 160 ty160 where
  info := ⟨Tryz.types.getD 160 default, .agg #[.int .i64 0, .int .i64 0], by kernel_rfl, by kernel_rfl, by kernel_rfl, by kernel_rfl, rfl, rfl, rfl⟩
  kd := (show ∃ fields, Tryz.prog.underlying 160 = some (.struct fields) ∧ fields.toList.map (fun f => (f.offset, f.type)) = [(0, 3), (1, 3)] from ⟨Tryz.prog.fieldsOf 160, by kernel_rfl, by kernel_rfl⟩)
  eq := fun es h xs ys hx hy x y w => by
    cases h
    exact eq_of (m := 2) (by decide) rfl (by kernel_rfl) ty160_eq xs ys hx hy x y w
@[reducible] def ty162 : TI := ⟨1, 8, [.nilFunc], .sc, none⟩
theorem ty162_ok : TIok Tryz.prog 162 ty162 where
  info := ⟨Tryz.types.getD 162 default, .nilFunc, by kernel_rfl, by kernel_rfl, by kernel_rfl, by kernel_rfl, rfl, rfl, rfl⟩
  kd := (show ∃ d, Tryz.prog.underlying 162 = some d ∧ scD d = true from ⟨(Tryz.prog.underlying 162).getD .bool, by kernel_rfl, by kernel_rfl⟩)
  eq := fun es h => by cases h
@[reducible] def ty163 : TI := ⟨1, 8, [.nilFunc], .sc, none⟩
theorem ty163_ok : TIok Tryz.prog 163 ty163 where
  info := ⟨Tryz.types.getD 163 default, .nilFunc, by kernel_rfl, by kernel_rfl, by kernel_rfl, by kernel_rfl, rfl, rfl, rfl⟩
  kd := (show ∃ d, Tryz.prog.underlying 163 = some d ∧ scD d = true from ⟨(Tryz.prog.underlying 163).getD .bool, by kernel_rfl, by kernel_rfl⟩)
  eq := fun es h => by cases h
@[reducible] def ty164 : TI := ⟨1, 8, [.nilFunc], .sc, none⟩
theorem ty164_ok : TIok Tryz.prog 164 ty164 where
  info := ⟨Tryz.types.getD 164 default, .nilFunc, by kernel_rfl, by kernel_rfl, by kernel_rfl, by kernel_rfl, rfl, rfl, rfl⟩
  kd := (show ∃ d, Tryz.prog.underlying 164 = some d ∧ scD d = true from ⟨(Tryz.prog.underlying 164).getD .bool, by kernel_rfl, by kernel_rfl⟩)
  eq := fun es h => by cases h
@[reducible] def ty166 : TI := ⟨1, 8, [.nilFunc], .sc, none⟩
theorem ty166_ok : TIok Tryz.prog 166 ty166 where
  info := ⟨Tryz.types.getD 166 default, .nilFunc, by kernel_rfl, by kernel_rfl, by kernel_rfl, by kernel_rfl, rfl, rfl, rfl⟩
  kd := (show ∃ d, Tryz.prog.underlying 166 = some d ∧ scD d = true from ⟨(Tryz.prog.underlying 166).getD .bool, by kernel_rfl, by kernel_rfl⟩)
  eq := fun es h => by cases h
@[reducible] def ty167 : TI := ⟨1, 8, [.int .u64 0], .int .u64, none⟩
theorem ty167_ok : TIok Tryz.prog 167 ty167 where
  info := ⟨Tryz.types.getD 167 default, .int .u64 0, by kernel_rfl, by kernel_rfl, by kernel_rfl, by kernel_rfl, rfl, rfl, rfl⟩
  kd := (show Tryz.prog.underlying 167 = some (.int .u64) from by kernel_rfl)
  eq := fun es h => by cases h
theorem ty167_eq : EqOK Tryz.prog ty167 167 [.int .u64] 1 := eq_int (by kernel_rfl) rfl
@[reducible] def ty169 : TI := ⟨1, 8, [.nilFunc], .sc, none⟩
theorem ty169_ok : TIok Tryz.prog 169 ty169 where
  info := ⟨Tryz.types.getD 169 default, .nilFunc, by kernel_rfl, by kernel_rfl, by kernel_rfl, by kernel_rfl, rfl, rfl, rfl⟩
  kd := (show ∃ d, Tryz.prog.underlying 169 = some d ∧ scD d = true from ⟨(Tryz.prog.underlying 169).getD .bool, by kernel_rfl, by kernel_rfl⟩)
  eq := fun es h => by cases h
@[reducible] def ty170 : TI := ⟨1, 8, [.pointer none], .pt 172, none⟩
theorem ty170_ok : TIok Tryz.prog 170 ty170 where
  info := ⟨Tryz.types.getD 170 default, .pointer none, by kernel_rfl, by kernel_rfl, by kernel_rfl, by kernel_rfl, rfl, rfl, rfl⟩
  kd := (show Tryz.prog.underlying 170 = some (.pointer 172) from by kernel_rfl)
  eq := fun es h => by cases h
@[reducible] def ty171 : TI := ⟨2, 32, [.slice none 0 0, .bool false], .st [(0, 22), (1, 4)], none⟩
theorem ty171_ok : TIok Tryz.prog 171 ty171 where
  info := ⟨Tryz.types.getD 171 default, .agg #[.slice none 0 0, .bool false], by kernel_rfl, by kernel_rfl, by kernel_rfl, by kernel_rfl, rfl, rfl, rfl⟩
  kd := (show ∃ fields, Tryz.prog.underlying 171 = some (.struct fields) ∧ fields.toList.map (fun f => (f.offset, f.type)) = [(0, 22), (1, 4)] from ⟨Tryz.prog.fieldsOf 171, by kernel_rfl, by kernel_rfl⟩)
  eq := fun es h => by cases h
@[reducible] def ty172 : TI := ⟨2, 32, [.slice none 0 0, .bool false], .st [(0, 22), (1, 4)], none⟩
theorem ty172_ok : TIok Tryz.prog 172 ty172 where
  info := ⟨Tryz.types.getD 172 default, .agg #[.slice none 0 0, .bool false], by kernel_rfl, by kernel_rfl, by kernel_rfl, by kernel_rfl, rfl, rfl, rfl⟩
  kd := (show ∃ fields, Tryz.prog.underlying 172 = some (.struct fields) ∧ fields.toList.map (fun f => (f.offset, f.type)) = [(0, 22), (1, 4)] from ⟨Tryz.prog.fieldsOf 172, by kernel_rfl, by kernel_rfl⟩)
  eq := fun es h => by cases h
@[reducible] def ty173 : TI := ⟨1, 24, [.slice none 0 0], .sl 3, none⟩
theorem ty173_ok : TIok Tryz.prog 173 ty173 where
  info := ⟨Tryz.types.getD 173 default, .slice none 0 0, by kernel_rfl, by kernel_rfl, by kernel_rfl, by kernel_rfl, rfl, rfl, rfl⟩
  kd := (show Tryz.prog.underlying 173 = some (.slice 3) from by kernel_rfl)
  eq := fun es h => by cases h
@[reducible] def ty174 : TI := ⟨1, 8, [.nilFunc], .sc, none⟩
theorem ty174_ok : TIok Tryz.prog 174 ty174 where
  info := ⟨Tryz.types.getD 174 default, .nilFunc, by kernel_rfl, by kernel_rfl, by kernel_rfl, by kernel_rfl, rfl, rfl, rfl⟩
  kd := (show ∃ d, Tryz.prog.underlying 174 = some d ∧ scD d = true from ⟨(Tryz.prog.underlying 174).getD .bool, by kernel_rfl, by kernel_rfl⟩)
  eq := fun es h => by cases h
@[reducible] def ty176 : TI := ⟨1, 8, [.nilFunc], .sc, none⟩
theorem ty176_ok : TIok Tryz.prog 176 ty176 where
  info := ⟨Tryz.types.getD 176 default, .nilFunc, by kernel_rfl, by kernel_rfl, by kernel_rfl, by kernel_rfl, rfl, rfl, rfl⟩
  kd := (show ∃ d, Tryz.prog.underlying 176 = some d ∧ scD d = true from ⟨(Tryz.prog.underlying 176).getD .bool, by kernel_rfl, by kernel_rfl⟩)
  eq := fun es h => by cases h
@[reducible] def ty177 : TI := ⟨1, 8, [.nilFunc], .sc, none⟩
theorem ty177_ok : TIok Tryz.prog 177 ty177 where
  info := ⟨Tryz.types.getD 177 default, .nilFunc, by kernel_rfl, by kernel_rfl, by kernel_rfl, by kernel_rfl, rfl, rfl, rfl⟩
  kd := (show ∃ d, Tryz.prog.underlying 177 = some d ∧ scD d = true from ⟨(Tryz.prog.underlying 177).getD .bool, by kernel_rfl, by kernel_rfl⟩)
  eq := fun es h => by cases h
@[reducible] def ty178 : TI := ⟨4, 32, [.int .i64 0, .int .i64 0, .int .i64 0, .int .i64 0], .st [(0, 120), (2, 120)], some [.int .i64, .int .i64, .int .i64, .int .i64]⟩
theorem ty178_eq : EqOK Tryz.prog ty178 178 [.int .i64, .int .i64, .int .i64, .int .i64] 3 := eq_struct (fs := Tryz.prog.fieldsOf 178) (by kernel_rfl) (by kernel_rfl) rfl (.of (show (Tryz.prog.fieldsOf 178).toList = [(Tryz.prog.fieldsOf 178).getD 0 default, (Tryz.prog.fieldsOf 178).getD 1 default] by kernel_rfl) (.c (f := (Tryz.prog.fieldsOf 178).getD 0 default) (by kernel_rfl) (by kernel_rfl) (by kernel_rfl) ty120_ok ty120_eq rfl (.inl rfl) (.c (f := (Tryz.prog.fieldsOf 178).getD 1 default) (by kernel_rfl) (by kernel_rfl) (by kernel_rfl) ty120_ok ty120_eq rfl (.inl rfl) (.nil _))))
theorem ty178_ok : TIok Tryz.prog 178 ty178 where
  info := ⟨Tryz.types.getD 178 default, .agg #[.int .i64 0, .int .i64 0, .int .i64 0, .int .i64 0], by kernel_rfl, by kernel_rfl, by kernel_rfl, by kernel_rfl, rfl, rfl, rfl⟩
  kd := (show ∃ fields, Tryz.prog.underlying 178 = some (.struct fields) ∧ fields.toList.map (fun f => (f.offset, f.type)) = [(0, 120), (2, 120)] from ⟨Tryz.prog.fieldsOf 178, by kernel_rfl, by kernel_rfl⟩)
  eq := fun es h xs ys hx hy x y w => by
    cases h
    exact eq_of (m := 3) (by decide) rfl (by kernel_rfl) ty178_eq xs ys hx hy x y w
@[reducible] def ty180 : TI := ⟨1, 24, [.slice none 0 0], .sl 120, none⟩
theorem ty180_ok : TIok Tryz.prog 180 ty180 where
  info := ⟨Tryz.types.getD 180 default, .slice none 0 0, by kernel_rfl, by kernel_rfl, by kernel_rfl, by kernel_rfl, rfl, rfl, rfl⟩
  kd := (show Tryz.prog.underlying 180 = some (.slice 120) from by kernel_rfl)
  eq := fun es h => by cases h
@[reducible] def ty181 : TI := ⟨1, 8, [.nilFunc], .sc, none⟩
theorem ty181_ok : TIok Tryz.prog 181 ty181 where
  info := ⟨Tryz.types.getD 181 default, .nilFunc, by kernel_rfl, by kernel_rfl, by kernel_rfl, by kernel_rfl, rfl, rfl, rfl⟩
  kd := (show ∃ d, Tryz.prog.underlying 181 = some d ∧ scD d = true from ⟨(Tryz.prog.underlying 181).getD .bool, by kernel_rfl, by kernel_rfl⟩)
  eq := fun es h => by cases h
@[reducible] def ty182 : TI := ⟨1, 8, [.nilFunc], .sc, none⟩
theorem ty182_ok : TIok Tryz.prog 182 ty182 where
  info := ⟨Tryz.types.getD 182 default, .nilFunc, by kernel_rfl, by kernel_rfl, by kernel_rfl, by kernel_rfl, rfl, rfl, rfl⟩
  kd := (show ∃ d, Tryz.prog.underlying 182 = some d ∧ scD d = true from ⟨(Tryz.prog.underlying 182).getD .bool, by kernel_rfl, by kernel_rfl⟩)
  eq := fun es h => by cases h
@[reducible] def ty183 : TI := ⟨1, 8, [.nilFunc], .sc, none⟩
theorem ty183_ok : TIok Tryz.prog 183 ty183 where
  info := ⟨Tryz.types.getD 183 default, .nilFunc, by kernel_rfl, by kernel_rfl, by kernel_rfl, by kernel_rfl, rfl, rfl, rfl⟩
  kd := (show ∃ d, Tryz.prog.underlying 183 = some d ∧ scD d = true from ⟨(Tryz.prog.underlying 183).getD .bool, by kernel_rfl, by kernel_rfl⟩)
  eq := fun es h => by cases h
@[reducible] def ty186 : TI := ⟨1, 8, [.nilFunc], .sc, none⟩
theorem ty186_ok : TIok Tryz.prog 186 ty186 where
  info := ⟨Tryz.types.getD 186 default, .nilFunc, by kernel_rfl, by kernel_rfl, by kernel_rfl, by kernel_rfl, rfl, rfl, rfl⟩
  kd := (show ∃ d, Tryz.prog.underlying 186 = some d ∧ scD d = true from ⟨(Tryz.prog.underlying 186).getD .bool, by kernel_rfl, by kernel_rfl⟩)
  eq := fun es h => by cases h
@[reducible] def ty187 : TI := ⟨1, 8, [.nilFunc], .sc, none⟩
theorem ty187_ok : TIok Tryz.prog 187 ty187 where
  info := ⟨Tryz.types.getD 187 default, .nilFunc, by kernel_rfl, by kernel_rfl, by kernel_rfl, by kernel_rfl, rfl, rfl, rfl⟩
  kd := (show ∃ d, Tryz.prog.underlying 187 = some d ∧ scD d = true from ⟨(Tryz.prog.underlying 187).getD .bool, by kernel_rfl, by kernel_rfl⟩)
  eq := fun es h => by cases h
@[reducible] def ty188 : TI := ⟨1, 8, [.nilFunc], .sc, none⟩
theorem ty188_ok : TIok Tryz.prog 188 ty188 where
  info := ⟨Tryz.types.getD 188 default, .nilFunc, by kernel_rfl, by kernel_rfl, by kernel_rfl, by kernel_rfl, rfl, rfl, rfl⟩
  kd := (show ∃ d, Tryz.prog.underlying 188 = some d ∧ scD d = true from ⟨(Tryz.prog.underlying 188).getD .bool, by kernel_rfl, by kernel_rfl⟩)
  eq := fun es h => by cases h
@[reducible] def ty189 : TI := ⟨1, 8, [.nilFunc], .sc, none⟩
theorem ty189_ok : TIok Tryz.prog 189 ty189 where
  info := ⟨Tryz.types.getD 189 default, .nilFunc, by kernel_rfl, by kernel_rfl, by kernel_rfl, by kernel_rfl, rfl, rfl, rfl⟩
  kd := (show ∃ d, Tryz.prog.underlying 189 = some d ∧ scD d = true from ⟨(Tryz.prog.underlying 189).getD .bool, by kernel_rfl, by kernel_rfl⟩)
  eq := fun es h => by cases h
@[reducible] def ty190 : TI := ⟨1, 8, [.nilFunc], .sc, none⟩
theorem ty190_ok : TIok Tryz.prog 190 ty190 where
  info := ⟨Tryz.types.getD 190 default, .nilFunc, by kernel_rfl, by kernel_rfl, by kernel_rfl, by kernel_rfl, rfl, rfl, rfl⟩
  kd := (show ∃ d, Tryz.prog.underlying 190 = some d ∧ scD d = true from ⟨(Tryz.prog.underlying 190).getD .bool, by kernel_rfl, by kernel_rfl⟩)
  eq := fun es h => by cases h
@[reducible] def ty191 : TI := ⟨1, 8, [.nilFunc], .sc, none⟩
theorem ty191_ok : TIok Tryz.prog 191 ty191 where
  info := ⟨Tryz.types.getD 191 default, .nilFunc, by kernel_rfl, by kernel_rfl, by kernel_rfl, by kernel_rfl, rfl, rfl, rfl⟩
  kd := (show ∃ d, Tryz.prog.underlying 191 = some d ∧ scD d = true from ⟨(Tryz.prog.underlying 191).getD .bool, by kernel_rfl, by kernel_rfl⟩)
  eq := fun es h => by cases h
@[reducible] def ty192 : TI := ⟨1, 1, [.int .i8 0], .int .i8, none⟩
theorem ty192_ok : TIok Tryz.prog 192 ty192 where
  info := ⟨Tryz.types.getD 192 default, .int .i8 0, by kernel_rfl, by kernel_rfl, by kernel_rfl, by kernel_rfl, rfl, rfl, rfl⟩
  kd := (show Tryz.prog.underlying 192 = some (.int .i8) from by kernel_rfl)
  eq := fun es h => by cases h
theorem ty192_eq : EqOK Tryz.prog ty192 192 [.int .i8] 1 := eq_int (by kernel_rfl) rfl
@[reducible] def ty193 : TI := ⟨1, 8, [.nilFunc], .sc, none⟩
theorem ty193_ok : TIok Tryz.prog 193 ty193 where
  info := ⟨Tryz.types.getD 193 default, .nilFunc, by kernel_rfl, by kernel_rfl, by kernel_rfl, by kernel_rfl, rfl, rfl, rfl⟩
  kd := (show ∃ d, Tryz.prog.underlying 193 = some d ∧ scD d = true from ⟨(Tryz.prog.underlying 193).getD .bool, by kernel_rfl, by kernel_rfl⟩)
  eq := fun es h => by cases h
@[reducible] def ty194 : TI := ⟨7, 56, [.int .i64 0, .int .i64 0, .int .i64 0, .int .i64 0, .int .i64 0, .int .i64 0, .bool false], .st [(0, 120), (2, 120), (4, 120), (6, 4)], some [.int .i64, .int .i64, .int .i64, .int .i64, .int .i64, .int .i64, .bool]⟩
theorem ty194_eq : EqOK Tryz.prog ty194 194 [.int .i64, .int .i64, .int .i64, .int .i64, .int .i64, .int .i64, .bool] 3 := eq_struct (fs := Tryz.prog.fieldsOf 194) (by kernel_rfl) (by kernel_rfl) rfl (.of (show (Tryz.prog.fieldsOf 194).toList = [(Tryz.prog.fieldsOf 194).getD 0 default, (Tryz.prog.fieldsOf 194).getD 1 default, (Tryz.prog.fieldsOf 194).getD 2 default, (Tryz.prog.fieldsOf 194).getD 3 default] by kernel_rfl) (.c (f := (Tryz.prog.fieldsOf 194).getD 0 default) (by kernel_rfl) (by kernel_rfl) (by kernel_rfl) ty120_ok ty120_eq rfl (.inl rfl) (.c (f := (Tryz.prog.fieldsOf 194).getD 1 default) (by kernel_rfl) (by kernel_rfl) (by kernel_rfl) ty120_ok ty120_eq rfl (.inl rfl) (.c (f := (Tryz.prog.fieldsOf 194).getD 2 default) (by kernel_rfl) (by kernel_rfl) (by kernel_rfl) ty120_ok ty120_eq rfl (.inl rfl) (.c (f := (Tryz.prog.fieldsOf 194).getD 3 default) (by kernel_rfl) (by kernel_rfl) (by kernel_rfl) ty4_ok ty4_eq.up rfl (.inr rfl) (.nil _))))))
theorem ty194_ok : TIok Tryz.prog 194 ty194 where
  info := ⟨Tryz.types.getD 194 default, .agg #[.int .i64 0, .int .i64 0, .int .i64 0, .int .i64 0, .int .i64 0, .int .i64 0, .bool false], by kernel_rfl, by kernel_rfl, by kernel_rfl, by kernel_rfl, rfl, rfl, rfl⟩
  kd := (show ∃ fields, Tryz.prog.underlying 194 = some (.struct fields) ∧ fields.toList.map (fun f => (f.offset, f.type)) = [(0, 120), (2, 120), (4, 120), (6, 4)] from ⟨Tryz.prog.fieldsOf 194, by kernel_rfl, by kernel_rfl⟩)
  eq := fun es h xs ys hx hy x y w => by
    cases h
    exact eq_of (m := 3) (by decide) rfl (by kernel_rfl) ty194_eq xs ys hx hy x y w
@[reducible] def ty196 : TI := ⟨1, 8, [.nilFunc], .sc, none⟩
theorem ty196_ok : TIok Tryz.prog 196 ty196 where
  info := ⟨Tryz.types.getD 196 default, .nilFunc, by kernel_rfl, by kernel_rfl, by kernel_rfl, by kernel_rfl, rfl, rfl, rfl⟩
  kd := (show ∃ d, Tryz.prog.underlying 196 = some d ∧ scD d = true from ⟨(Tryz.prog.underlying 196).getD .bool, by kernel_rfl, by kernel_rfl⟩)
  eq := fun es h => by cases h
@[reducible] def ty197 : TI := ⟨1, 8, [.nilFunc], .sc, none⟩
theorem ty197_ok : TIok Tryz.prog 197 ty197 where
  info := ⟨Tryz.types.getD 197 default, .nilFunc, by kernel_rfl, by kernel_rfl, by kernel_rfl, by kernel_rfl, rfl, rfl, rfl⟩
  kd := (show ∃ d, Tryz.prog.underlying 197 = some d ∧ scD d = true from ⟨(Tryz.prog.underlying 197).getD .bool, by kernel_rfl, by kernel_rfl⟩)
  eq := fun es h => by cases h
@[reducible] def ty198 : TI := ⟨1, 8, [.nilFunc], .sc, none⟩
theorem ty198_ok : TIok Tryz.prog 198 ty198 where
  info := ⟨Tryz.types.getD 198 default, .nilFunc, by kernel_rfl, by kernel_rfl, by kernel_rfl, by kernel_rfl, rfl, rfl, rfl⟩
  kd := (show ∃ d, Tryz.prog.underlying 198 = some d ∧ scD d = true from ⟨(Tryz.prog.underlying 198).getD .bool, by kernel_rfl, by kernel_rfl⟩)
  eq := fun es h => by cases h
@[reducible] def ty199 : TI := ⟨1, 8, [.nilFunc], .sc, none⟩
theorem ty199_ok : TIok Tryz.prog 199 ty199 where
  info := ⟨Tryz.types.getD 199 default, .nilFunc, by kernel_rfl, by kernel_rfl, by kernel_rfl, by kernel_rfl, rfl, rfl, rfl⟩
  kd := (show ∃ d, Tryz.prog.underlying 199 = some d ∧ scD d = true from ⟨(Tryz.prog.underlying 199).getD .bool, by kernel_rfl, by kernel_rfl⟩)
  eq := fun es h => by cases h
@[reducible] def ty200 : TI := ⟨1, 8, [.pointer none], .pt 55, none⟩
theorem ty200_ok : TIok Tryz.prog 200 ty200 where
  info := ⟨Tryz.types.getD 200 default, .pointer none, by kernel_rfl, by kernel_rfl, by kernel_rfl, by kernel_rfl, rfl, rfl, rfl⟩
  kd := (show Tryz.prog.underlying 200 = some (.pointer 55) from by kernel_rfl)
  eq := fun es h => by cases h
@[reducible] def ty201 : TI := ⟨1, 8, [.nilFunc], .sc, none⟩
theorem ty201_ok : TIok Tryz.prog 201 ty201 where
  info := ⟨Tryz.types.getD 201 default, .nilFunc, by kernel_rfl, by kernel_rfl, by kernel_rfl, by kernel_rfl, rfl, rfl, rfl⟩
  kd := (show ∃ d, Tryz.prog.underlying 201 = some d ∧ scD d = true from ⟨(Tryz.prog.underlying 201).getD .bool, by kernel_rfl, by kernel_rfl⟩)
  eq := fun es h => by cases h
@[reducible] def ty202 : TI := ⟨1, 8, [.pointer none], .pt 143, none⟩
theorem ty202_ok : TIok Tryz.prog 202 ty202 where
  info := ⟨Tryz.types.getD 202 default, .pointer none, by kernel_rfl, by kernel_rfl, by kernel_rfl, by kernel_rfl, rfl, rfl, rfl⟩
  kd := (show Tryz.prog.underlying 202 = some (.pointer 143) from by kernel_rfl)
  eq := fun es h => by cases h
@[reducible] def ty203 : TI := ⟨1, 8, [.nilFunc], .sc, none⟩
theorem ty203_ok : TIok Tryz.prog 203 ty203 where
  info := ⟨Tryz.types.getD 203 default, .nilFunc, by kernel_rfl, by kernel_rfl, by kernel_rfl, by kernel_rfl, rfl, rfl, rfl⟩
  kd := (show ∃ d, Tryz.prog.underlying 203 = some d ∧ scD d = true from ⟨(Tryz.prog.underlying 203).getD .bool, by kernel_rfl, by kernel_rfl⟩)
  eq := fun es h => by cases h
@[reducible] def ty204 : TI := ⟨1, 8, [.nilFunc], .sc, none⟩
theorem ty204_ok : TIok Tryz.prog 204 ty204 where
  info := ⟨Tryz.types.getD 204 default, .nilFunc, by kernel_rfl, by kernel_rfl, by kernel_rfl, by kernel_rfl, rfl, rfl, rfl⟩
  kd := (show ∃ d, Tryz.prog.underlying 204 = some d ∧ scD d = true from ⟨(Tryz.prog.underlying 204).getD .bool, by kernel_rfl, by kernel_rfl⟩)
  eq := fun es h => by cases h
@[reducible] def ty205 : TI := ⟨1, 8, [.nilFunc], .sc, none⟩
theorem ty205_ok : TIok Tryz.prog 205 ty205 where
  info := ⟨Tryz.types.getD 205 default, .nilFunc, by kernel_rfl, by kernel_rfl, by kernel_rfl, by kernel_rfl, rfl, rfl, rfl⟩
  kd := (show ∃ d, Tryz.prog.underlying 205 = some d ∧ scD d = true from ⟨(Tryz.prog.underlying 205).getD .bool, by kernel_rfl, by kernel_rfl⟩)
  eq := fun es h => by cases h
@[reducible] def ty206 : TI := ⟨1, 8, [.pointer none], .pt 137, none⟩
theorem ty206_ok : TIok Tryz.prog 206 ty206 where
  info := ⟨Tryz.types.getD 206 default, .pointer none, by kernel_rfl, by kernel_rfl, by kernel_rfl, by kernel_rfl, rfl, rfl, rfl⟩
  kd := (show Tryz.prog.underlying 206 = some (.pointer 137) from by kernel_rfl)
  eq := fun es h => by cases h
@[reducible] def ty207 : TI := ⟨1, 8, [.nilFunc], .sc, none⟩
theorem ty207_ok : TIok Tryz.prog 207 ty207 where
  info := ⟨Tryz.types.getD 207 default, .nilFunc, by kernel_rfl, by kernel_rfl, by kernel_rfl, by kernel_rfl, rfl, rfl, rfl⟩
  kd := (show ∃ d, Tryz.prog.underlying 207 = some d ∧ scD d = true from ⟨(Tryz.prog.underlying 207).getD .bool, by kernel_rfl, by kernel_rfl⟩)
  eq := fun es h => by cases h
@[reducible] def ty208 : TI := ⟨1, 8, [.pointer none], .pt 135, none⟩
theorem ty208_ok : TIok Tryz.prog 208 ty208 where
  info := ⟨Tryz.types.getD 208 default, .pointer none, by kernel_rfl, by kernel_rfl, by kernel_rfl, by kernel_rfl, rfl, rfl, rfl⟩
  kd := (show Tryz.prog.underlying 208 = some (.pointer 135) from by kernel_rfl)
  eq := fun es h => by cases h
@[reducible] def ty209 : TI := ⟨1, 8, [.nilFunc], .sc, none⟩
theorem ty209_ok : TIok Tryz.prog 209 ty209 where
  info := ⟨Tryz.types.getD 209 default, .nilFunc, by kernel_rfl, by kernel_rfl, by kernel_rfl, by kernel_rfl, rfl, rfl, rfl⟩
  kd := (show ∃ d, Tryz.prog.underlying 209 = some d ∧ scD d = true from ⟨(Tryz.prog.underlying 209).getD .bool, by kernel_rfl, by kernel_rfl⟩)
  eq := fun es h => by cases h
@[reducible] def ty210 : TI := ⟨1, 8, [.nilFunc], .sc, none⟩
theorem ty210_ok : TIok Tryz.prog 210 ty210 where
  info := ⟨Tryz.types.getD 210 default, .nilFunc, by kernel_rfl, by kernel_rfl, by kernel_rfl, by kernel_rfl, rfl, rfl, rfl⟩
  kd := (show ∃ d, Tryz.prog.underlying 210 = some d ∧ scD d = true from ⟨(Tryz.prog.underlying 210).getD .bool, by kernel_rfl, by kernel_rfl⟩)
  eq := fun es h => by cases h
@[reducible] def ty211 : TI := ⟨1, 8, [.nilFunc], .sc, none⟩
theorem ty211_ok : TIok Tryz.prog 211 ty211 where
  info := ⟨Tryz.types.getD 211 default, .nilFunc, by kernel_rfl, by kernel_rfl, by kernel_rfl, by kernel_rfl, rfl, rfl, rfl⟩
  kd := (show ∃ d, Tryz.prog.underlying 211 = some d ∧ scD d = true from ⟨(Tryz.prog.underlying 211).getD .bool, by kernel_rfl, by kernel_rfl⟩)
  eq := fun es h => by cases h
@[reducible] def ty212 : TI := ⟨1, 8, [.nilFunc], .sc, none⟩
theorem ty212_ok : TIok Tryz.prog 212 ty212 where
  info := ⟨Tryz.types.getD 212 default, .nilFunc, by kernel_rfl, by kernel_rfl, by kernel_rfl, by kernel_rfl, rfl, rfl, rfl⟩
  kd := (show ∃ d, Tryz.prog.underlying 212 = some d ∧ scD d = true from ⟨(Tryz.prog.underlying 212).getD .bool, by kernel_rfl, by kernel_rfl⟩)
  eq := fun es h => by cases h
@[reducible] def ty213 : TI := ⟨2, 16, [.int .u64 0, .int .u64 0], .st [(0, 167), (1, 167)], some [.int .u64, .int .u64]⟩
theorem ty213_eq : EqOK Tryz.prog ty213 213 [.int .u64, .int .u64] 2 := eq_struct (fs := Tryz.prog.fieldsOf 213) (by kernel_rfl) (by kernel_rfl) rfl (.of (show (Tryz.prog.fieldsOf 213).toList = [(Tryz.prog.fieldsOf 213).getD 0 default, (Tryz.prog.fieldsOf 213).getD 1 default] by kernel_rfl) (.c (f := (Tryz.prog.fieldsOf 213).getD 0 default) (by kernel_rfl) (by kernel_rfl) (by kernel_rfl) ty167_ok ty167_eq rfl (.inr rfl) (.c (f := (Tryz.prog.fieldsOf 213).getD 1 default) (by kernel_rfl) (by kernel_rfl) (by kernel_rfl) ty167_ok ty167_eq rfl (.inr rfl) (.nil _))))
theorem ty213_ok : TIok Tryz.prog 213 ty213 where
  info := ⟨Tryz.types.getD 213 default, .agg #[.int .u64 0, .int .u64 0], by kernel_rfl, by kernel_rfl, by kernel_rfl, by kernel_rfl, rfl, rfl, rfl⟩
  kd := (show ∃ fields, Tryz.prog.underlying 213 = some (.struct fields) ∧ fields.toList.map (fun f => (f.offset, f.type)) = [(0, 167), (1, 167)] from ⟨Tryz.prog.fieldsOf 213, by kernel_rfl, by kernel_rfl⟩)
  eq := fun es h xs ys hx hy x y w => by
    cases h
    exact eq_of (m := 2) (by decide) rfl (by kernel_rfl) ty213_eq xs ys hx hy x y w
@[reducible] def ty214 : TI := ⟨2, 16, [.int .u64 0, .int .u64 0], .st [(0, 167), (1, 167)], some [.int .u64, .int .u64]⟩
theorem ty214_eq : EqOK Tryz.prog ty214 214 [.int .u64, .int .u64] 2 := eq_struct (fs := Tryz.prog.fieldsOf 214) (by kernel_rfl) (by kernel_rfl) rfl (.of (show (Tryz.prog.fieldsOf 214).toList = [(Tryz.prog.fieldsOf 214).getD 0 default, (Tryz.prog.fieldsOf 214).getD 1 default] by kernel_rfl) (.c (f := (Tryz.prog.fieldsOf 214).getD 0 default) (by kernel_rfl) (by kernel_rfl) (by kernel_rfl) ty167_ok ty167_eq rfl (.inr rfl) (.c (f := (Tryz.prog.fieldsOf 214).getD 1 default) (by kernel_rfl) (by kernel_rfl) (by kernel_rfl) ty167_ok ty167_eq rfl (.inr rfl) (.nil _))))
theorem ty214_ok : TIok Tryz.prog 214 ty214 where
  info := ⟨Tryz.types.getD 214 default, .agg #[.int .u64 0, .int .u64 0], by kernel_rfl, by kernel_rfl, by kernel_rfl, by kernel_rfl, rfl, rfl, rfl⟩
  kd := (show ∃ fields, Tryz.prog.underlying 214 = some (.struct fields) ∧ fields.toList.map (fun f => (f.offset, f.type)) = [(0, 167), (1, 167)] from ⟨Tryz.prog.fieldsOf 214, by kernel_rfl, by kernel_rfl⟩)
  eq := fun es h xs ys hx hy x y w => by
    cases h
    exact eq_of (m := 2) (by decide) rfl (by kernel_rfl) ty214_eq xs ys hx hy x y w
@[reducible] def ty215 : TI := ⟨1, 8, [.nilFunc], .sc, none⟩
theorem ty215_ok : TIok Tryz.prog 215 ty215 where
  info := ⟨Tryz.types.getD 215 default, .nilFunc, by kernel_rfl, by kernel_rfl, by kernel_rfl, by kernel_rfl, rfl, rfl, rfl⟩
  kd := (show ∃ d, Tryz.prog.underlying 215 = some d ∧ scD d = true from ⟨(Tryz.prog.underlying 215).getD .bool, by kernel_rfl, by kernel_rfl⟩)
  eq := fun es h => by cases h
@[reducible] def ty216 : TI := ⟨1, 8, [.nilFunc], .sc, none⟩
theorem ty216_ok : TIok Tryz.prog 216 ty216 where
  info := ⟨Tryz.types.getD 216 default, .nilFunc, by kernel_rfl, by kernel_rfl, by kernel_rfl, by kernel_rfl, rfl, rfl, rfl⟩
  kd := (show ∃ d, Tryz.prog.underlying 216 = some d ∧ scD d = true from ⟨(Tryz.prog.underlying 216).getD .bool, by kernel_rfl, by kernel_rfl⟩)
  eq := fun es h => by cases h
@[reducible] def ty217 : TI := ⟨1, 8, [.pointer none], .pt 141, none⟩
theorem ty217_ok : TIok Tryz.prog 217 ty217 where
  info := ⟨Tryz.types.getD 217 default, .pointer none, by kernel_rfl, by kernel_rfl, by kernel_rfl, by kernel_rfl, rfl, rfl, rfl⟩
  kd := (show Tryz.prog.underlying 217 = some (.pointer 141) from by kernel_rfl)
  eq := fun es h => by cases h
@[reducible] def ty218 : TI := ⟨1, 8, [.nilFunc], .sc, none⟩
theorem ty218_ok : TIok Tryz.prog 218 ty218 where
  info := ⟨Tryz.types.getD 218 default, .nilFunc, by kernel_rfl, by kernel_rfl, by kernel_rfl, by kernel_rfl, rfl, rfl, rfl⟩
  kd := (show ∃ d, Tryz.prog.underlying 218 = some d ∧ scD d = true from ⟨(Tryz.prog.underlying 218).getD .bool, by kernel_rfl, by kernel_rfl⟩)
  eq := fun es h => by cases h
@[reducible] def ty219 : TI := ⟨1, 8, [.nilFunc], .sc, none⟩
theorem ty219_ok : TIok Tryz.prog 219 ty219 where
  info := ⟨Tryz.types.getD 219 default, .nilFunc, by kernel_rfl, by kernel_rfl, by kernel_rfl, by kernel_rfl, rfl, rfl, rfl⟩
  kd := (show ∃ d, Tryz.prog.underlying 219 = some d ∧ scD d = true from ⟨(Tryz.prog.underlying 219).getD .bool, by kernel_rfl, by kernel_rfl⟩)
  eq := fun es h => by cases h
@[reducible] def ty221 : TI := ⟨1, 8, [.nilFunc], .sc, none⟩
theorem ty221_ok : TIok Tryz.prog 221 ty221 where
  info := ⟨Tryz.types.getD 221 default, .nilFunc, by kernel_rfl, by kernel_rfl, by kernel_rfl, by kernel_rfl, rfl, rfl, rfl⟩
  kd := (show ∃ d, Tryz.prog.underlying 221 = some d ∧ scD d = true from ⟨(Tryz.prog.underlying 221).getD .bool, by kernel_rfl, by kernel_rfl⟩)
  eq := fun es h => by cases h
@[reducible] def ty222 : TI := ⟨1, 8, [.nilFunc], .sc, none⟩
theorem ty222_ok : TIok Tryz.prog 222 ty222 where
  info := ⟨Tryz.types.getD 222 default, .nilFunc, by kernel_rfl, by kernel_rfl, by kernel_rfl, by kernel_rfl, rfl, rfl, rfl⟩
  kd := (show ∃ d, Tryz.prog.underlying 222 = some d ∧ scD d = true from ⟨(Tryz.prog.underlying 222).getD .bool, by kernel_rfl, by kernel_rfl⟩)
  eq := fun es h => by cases h
@[reducible] def ty223 : TI := ⟨1, 8, [.nilFunc], .sc, none⟩
theorem ty223_ok : TIok Tryz.prog 223 ty223 where
  info := ⟨Tryz.types.getD 223 default, .nilFunc, by kernel_rfl, by kernel_rfl, by kernel_rfl, by kernel_rfl, rfl, rfl, rfl⟩
  kd := (show ∃ d, Tryz.prog.underlying 223 = some d ∧ scD d = true from ⟨(Tryz.prog.underlying 223).getD .bool, by kernel_rfl, by kernel_rfl⟩)
  eq := fun es h => by cases h
@[reducible] def ty225 : TI := ⟨1, 8, [.nilFunc], .sc, none⟩
theorem ty225_ok : TIok Tryz.prog 225 ty225 where
  info := ⟨Tryz.types.getD 225 default, .nilFunc, by kernel_rfl, by kernel_rfl, by kernel_rfl, by kernel_rfl, rfl, rfl, rfl⟩
  kd := (show ∃ d, Tryz.prog.underlying 225 = some d ∧ scD d = true from ⟨(Tryz.prog.underlying 225).getD .bool, by kernel_rfl, by kernel_rfl⟩)
  eq := fun es h => by cases h
@[reducible] def ty226 : TI := ⟨1, 8, [.pointer none], .pt 21, none⟩
theorem ty226_ok : TIok Tryz.prog 226 ty226 where
  info := ⟨Tryz.types.getD 226 default, .pointer none, by kernel_rfl, by kernel_rfl, by kernel_rfl, by kernel_rfl, rfl, rfl, rfl⟩
  kd := (show Tryz.prog.underlying 226 = some (.pointer 21) from by kernel_rfl)
  eq := fun es h => by cases h
@[reducible] def ty229 : TI := ⟨1, 8, [.nilFunc], .sc, none⟩
theorem ty229_ok : TIok Tryz.prog 229 ty229 where
  info := ⟨Tryz.types.getD 229 default, .nilFunc, by kernel_rfl, by kernel_rfl, by kernel_rfl, by kernel_rfl, rfl, rfl, rfl⟩
  kd := (show ∃ d, Tryz.prog.underlying 229 = some d ∧ scD d = true from ⟨(Tryz.prog.underlying 229).getD .bool, by kernel_rfl, by kernel_rfl⟩)
  eq := fun es h => by cases h
@[reducible] def ty230 : TI := ⟨1, 8, [.nilFunc], .sc, none⟩
theorem ty230_ok : TIok Tryz.prog 230 ty230 where
  info := ⟨Tryz.types.getD 230 default, .nilFunc, by kernel_rfl, by kernel_rfl, by kernel_rfl, by kernel_rfl, rfl, rfl, rfl⟩
  kd := (show ∃ d, Tryz.prog.underlying 230 = some d ∧ scD d = true from ⟨(Tryz.prog.underlying 230).getD .bool, by kernel_rfl, by kernel_rfl⟩)
  eq := fun es h => by cases h
@[reducible] def ty231 : TI := ⟨1, 8, [.nilFunc], .sc, none⟩
theorem ty231_ok : TIok Tryz.prog 231 ty231 where
  info := ⟨Tryz.types.getD 231 default, .nilFunc, by kernel_rfl, by kernel_rfl, by kernel_rfl, by kernel_rfl, rfl, rfl, rfl⟩
  kd := (show ∃ d, Tryz.prog.underlying 231 = some d ∧ scD d = true from ⟨(Tryz.prog.underlying 231).getD .bool, by kernel_rfl, by kernel_rfl⟩)
  eq := fun es h => by cases h
@[reducible] def ty233 : TI := ⟨1, 8, [.nilFunc], .sc, none⟩
theorem ty233_ok : TIok Tryz.prog 233 ty233 where
  info := ⟨Tryz.types.getD 233 default, .nilFunc, by kernel_rfl, by kernel_rfl, by kernel_rfl, by kernel_rfl, rfl, rfl, rfl⟩
  kd := (show ∃ d, Tryz.prog.underlying 233 = some d ∧ scD d = true from ⟨(Tryz.prog.underlying 233).getD .bool, by kernel_rfl, by kernel_rfl⟩)
  eq := fun es h => by cases h
@[reducible] def ty234 : TI := ⟨1, 8, [.nilFunc], .sc, none⟩
theorem ty234_ok : TIok Tryz.prog 234 ty234 where
  info := ⟨Tryz.types.getD 234 default, .nilFunc, by kernel_rfl, by kernel_rfl, by kernel_rfl, by kernel_rfl, rfl, rfl, rfl⟩
  kd := (show ∃ d, Tryz.prog.underlying 234 = some d ∧ scD d = true from ⟨(Tryz.prog.underlying 234).getD .bool, by kernel_rfl, by kernel_rfl⟩)
  eq := fun es h => by cases h
@[reducible] def ty235 : TI := ⟨1, 8, [.nilFunc], .sc, none⟩
theorem ty235_ok : TIok Tryz.prog 235 ty235 where
  info := ⟨Tryz.types.getD 235 default, .nilFunc, by kernel_rfl, by kernel_rfl, by kernel_rfl, by kernel_rfl, rfl, rfl, rfl⟩
  kd := (show ∃ d, Tryz.prog.underlying 235 = some d ∧ scD d = true from ⟨(Tryz.prog.underlying 235).getD .bool, by kernel_rfl, by kernel_rfl⟩)
  eq := fun es h => by cases h
@[reducible] def ty236 : TI := ⟨1, 8, [.nilFunc], .sc, none⟩
theorem ty236_ok : TIok Tryz.prog 236 ty236 where
  info := ⟨Tryz.types.getD 236 default, .nilFunc, by kernel_rfl, by kernel_rfl, by kernel_rfl, by kernel_rfl, rfl, rfl, rfl⟩
  kd := (show ∃ d, Tryz.prog.underlying 236 = some d ∧ scD d = true from ⟨(Tryz.prog.underlying 236).getD .bool, by kernel_rfl, by kernel_rfl⟩)
  eq := fun es h => by cases h
@[reducible] def ty237 : TI := ⟨1, 8, [.nilFunc], .sc, none⟩
theorem ty237_ok : TIok Tryz.prog 237 ty237 where
  info := ⟨Tryz.types.getD 237 default, .nilFunc, by kernel_rfl, by kernel_rfl, by kernel_rfl, by kernel_rfl, rfl, rfl, rfl⟩
  kd := (show ∃ d, Tryz.prog.underlying 237 = some d ∧ scD d = true from ⟨(Tryz.prog.underlying 237).getD .bool, by kernel_rfl, by kernel_rfl⟩)
  eq := fun es h => by cases h
@[reducible] def ty238 : TI := ⟨1, 8, [.nilFunc], .sc, none⟩
theorem ty238_ok : TIok Tryz.prog 238 ty238 where
  info := ⟨Tryz.types.getD 238 default, .nilFunc, by kernel_rfl, by kernel_rfl, by kernel_rfl, by kernel_rfl, rfl, rfl, rfl⟩
  kd := (show ∃ d, Tryz.prog.underlying 238 = some d ∧ scD d = true from ⟨(Tryz.prog.underlying 238).getD .bool, by kernel_rfl, by kernel_rfl⟩)
  eq := fun es h => by cases h
@[reducible] def ty239 : TI := ⟨1, 8, [.nilFunc], .sc, none⟩
theorem ty239_ok : TIok Tryz.prog 239 ty239 where
  info := ⟨Tryz.types.getD 239 default, .nilFunc, by kernel_rfl, by kernel_rfl, by kernel_rfl, by kernel_rfl, rfl, rfl, rfl⟩
  kd := (show ∃ d, Tryz.prog.underlying 239 = some d ∧ scD d = true from ⟨(Tryz.prog.underlying 239).getD .bool, by kernel_rfl, by kernel_rfl⟩)
  eq := fun es h => by cases h
@[reducible] def ty240 : TI := ⟨1, 8, [.nilFunc], .sc, none⟩
theorem ty240_ok : TIok Tryz.prog 240 ty240 where
  info := ⟨Tryz.types.getD 240 default, .nilFunc, by kernel_rfl, by kernel_rfl, by kernel_rfl, by kernel_rfl, rfl, rfl, rfl⟩
  kd := (show ∃ d, Tryz.prog.underlying 240 = some d ∧ scD d = true from ⟨(Tryz.prog.underlying 240).getD .bool, by kernel_rfl, by kernel_rfl⟩)
  eq := fun es h => by cases h
@[reducible] def ty249 : TI := ⟨1, 8, [.pointer none], .pt 5, none⟩
theorem ty249_ok : TIok Tryz.prog 249 ty249 where
  info := ⟨Tryz.types.getD 249 default, .pointer none, by kernel_rfl, by kernel_rfl, by kernel_rfl, by kernel_rfl, rfl, rfl, rfl⟩
  kd := (show Tryz.prog.underlying 249 = some (.pointer 5) from by kernel_rfl)
  eq := fun es h => by cases h
@[reducible] def ty254 : TI := ⟨1, 8, [.nilFunc], .sc, none⟩
theorem ty254_ok : TIok Tryz.prog 254 ty254 where
  info := ⟨Tryz.types.getD 254 default, .nilFunc, by kernel_rfl, by kernel_rfl, by kernel_rfl, by kernel_rfl, rfl, rfl, rfl⟩
  kd := (show ∃ d, Tryz.prog.underlying 254 = some d ∧ scD d = true from ⟨(Tryz.prog.underlying 254).getD .bool, by kernel_rfl, by kernel_rfl⟩)
  eq := fun es h => by cases h
@[reducible] def ty255 : TI := ⟨1, 8, [.nilFunc], .sc, none⟩
theorem ty255_ok : TIok Tryz.prog 255 ty255 where
  info := ⟨Tryz.types.getD 255 default, .nilFunc, by kernel_rfl, by kernel_rfl, by kernel_rfl, by kernel_rfl, rfl, rfl, rfl⟩
  kd := (show ∃ d, Tryz.prog.underlying 255 = some d ∧ scD d = true from ⟨(Tryz.prog.underlying 255).getD .bool, by kernel_rfl, by kernel_rfl⟩)
  eq := fun es h => by cases h
def tt : Nat → Option TI := SX.look [(1, ty1), (2, ty2), (3, ty3), (4, ty4), (5, ty5), (9, ty9), (12, ty12), (21, ty21), (22, ty22), (23, ty23), (26, ty26), (28, ty28), (30, ty30), (32, ty32), (24, ty24), (25, ty25), (27, ty27), (29, ty29), (31, ty31), (33, ty33), (34, ty34), (35, ty35), (36, ty36), (55, ty55), (56, ty56), (37, ty37), (38, ty38), (39, ty39), (40, ty40), (41, ty41), (42, ty42), (43, ty43), (44, ty44), (45, ty45), (46, ty46), (47, ty47), (48, ty48), (49, ty49), (50, ty50), (51, ty51), (53, ty53), (54, ty54), (57, ty57), (58, ty58), (59, ty59), (60, ty60), (61, ty61), (62, ty62), (63, ty63), (64, ty64), (65, ty65), (66, ty66), (67, ty67), (68, ty68), (69, ty69), (70, ty70), (71, ty71), (72, ty72), (73, ty73), (75, ty75), (76, ty76), (77, ty77), (74, ty74), (78, ty78), (79, ty79), (80, ty80), (81, ty81), (82, ty82), (83, ty83), (85, ty85), (120, ty120), (179, ty179), (86, ty86), (88, ty88), (89, ty89), (90, ty90), (92, ty92), (94, ty94), (95, ty95), (96, ty96), (97, ty97), (98, ty98), (99, ty99), (100, ty100), (102, ty102), (103, ty103), (104, ty104), (105, ty105), (110, ty110), (106, ty106), (107, ty107), (108, ty108), (109, ty109), (112, ty112), (113, ty113), (115, ty115), (116, ty116), (195, ty195), (175, ty175), (117, ty117), (118, ty118), (119, ty119), (122, ty122), (123, ty123), (124, ty124), (125, ty125), (126, ty126), (129, ty129), (130, ty130), (131, ty131), (132, ty132), (133, ty133), (134, ty134), (135, ty135), (147, ty147), (148, ty148), (150, ty150), (151, ty151), (152, ty152), (153, ty153), (154, ty154), (155, ty155), (156, ty156), (157, ty157), (159, ty159), (160, ty160), (162, ty162), (163, ty163), (164, ty164), (166, ty166), (167, ty167), (169, ty169), (170, ty170), (171, ty171), (172, ty172), (173, ty173), (174, ty174), (176, ty176), (177, ty177), (178, ty178), (180, ty180), (181, ty181), (182, ty182), (183, ty183), (186, ty186), (187, ty187), (188, ty188), (189, ty189), (190, ty190), (191, ty191), (192, ty192), (193, ty193), (194, ty194), (196, ty196), (197, ty197), (198, ty198), (199, ty199), (200, ty200), (201, ty201), (202, ty202), (203, ty203), (204, ty204), (205, ty205), (206, ty206), (207, ty207), (208, ty208), (209, ty209), (210, ty210), (211, ty211), (212, ty212), (213, ty213), (214, ty214), (215, ty215), (216, ty216), (217, ty217), (218, ty218), (219, ty219), (221, ty221), (222, ty222), (223, ty223), (225, ty225), (226, ty226), (229, ty229), (230, ty230), (231, ty231), (233, ty233), (234, ty234), (235, ty235), (236, ty236), (237, ty237), (238, ty238), (239, ty239), (240, ty240), (249, ty249), (254, ty254), (255, ty255)]
theorem tt_ok : ∀ T ti, tt T = some ti → TIok Tryz.prog T ti := fun T ti h => by
  have h := SX.look_mem (xs := _) h
  simp only [List.mem_cons, Prod.mk.injEq, List.not_mem_nil, or_false] at h
  rcases h with ⟨rfl, rfl⟩ | ⟨rfl, rfl⟩ | ⟨rfl, rfl⟩ | ⟨rfl, rfl⟩ | ⟨rfl, rfl⟩ | ⟨rfl, rfl⟩ | ⟨rfl, rfl⟩ | ⟨rfl, rfl⟩ | ⟨rfl, rfl⟩ | ⟨rfl, rfl⟩ | ⟨rfl, rfl⟩ | ⟨rfl, rfl⟩ | ⟨rfl, rfl⟩ | ⟨rfl, rfl⟩ | ⟨rfl, rfl⟩ | ⟨rfl, rfl⟩ | ⟨rfl, rfl⟩ | ⟨rfl, rfl⟩ | ⟨rfl, rfl⟩ | ⟨rfl, rfl⟩ | ⟨rfl, rfl⟩ | ⟨rfl, rfl⟩ | ⟨rfl, rfl⟩ | ⟨rfl, rfl⟩ | ⟨rfl, rfl⟩ | ⟨rfl, rfl⟩ | ⟨rfl, rfl⟩ | ⟨rfl, rfl⟩ | ⟨rfl, rfl⟩ | ⟨rfl, rfl⟩ | ⟨rfl, rfl⟩ | ⟨rfl, rfl⟩ | ⟨rfl, rfl⟩ | ⟨rfl, rfl⟩ | ⟨rfl, rfl⟩ | ⟨rfl, rfl⟩ | ⟨rfl, rfl⟩ | ⟨rfl, rfl⟩ | ⟨rfl, rfl⟩ | ⟨rfl, rfl⟩ | ⟨rfl, rfl⟩ | ⟨rfl, rfl⟩ | ⟨rfl, rfl⟩ | ⟨rfl, rfl⟩ | ⟨rfl, rfl⟩ | ⟨rfl, rfl⟩ | ⟨rfl, rfl⟩ | ⟨rfl, rfl⟩ | ⟨rfl, rfl⟩ | ⟨rfl, rfl⟩ | ⟨rfl, rfl⟩ | ⟨rfl, rfl⟩ | ⟨rfl, rfl⟩ | ⟨rfl, rfl⟩ | ⟨rfl, rfl⟩ | ⟨rfl, rfl⟩ | ⟨rfl, rfl⟩ | ⟨rfl, rfl⟩ | ⟨rfl, rfl⟩ | ⟨rfl, rfl⟩ | ⟨rfl, rfl⟩ | ⟨rfl, rfl⟩ | ⟨rfl, rfl⟩ | ⟨rfl, rfl⟩ | ⟨rfl, rfl⟩ | ⟨rfl, rfl⟩ | ⟨rfl, rfl⟩ | ⟨rfl, rfl⟩ | ⟨rfl, rfl⟩ | ⟨rfl, rfl⟩ | ⟨rfl, rfl⟩ | ⟨rfl, rfl⟩ | ⟨rfl, rfl⟩ | ⟨rfl, rfl⟩ | ⟨rfl, rfl⟩ | ⟨rfl, rfl⟩ | ⟨rfl, rfl⟩ | ⟨rfl, rfl⟩ | ⟨rfl, rfl⟩ | ⟨rfl, rfl⟩ | ⟨rfl, rfl⟩ | ⟨rfl, rfl⟩ | ⟨rfl, rfl⟩ | ⟨rfl, rfl⟩ | ⟨rfl, rfl⟩ | ⟨rfl, rfl⟩ | ⟨rfl, rfl⟩ | ⟨rfl, rfl⟩ | ⟨rfl, rfl⟩ | ⟨rfl, rfl⟩ | ⟨rfl, rfl⟩ | ⟨rfl, rfl⟩ | ⟨rfl, rfl⟩ | ⟨rfl, rfl⟩ | ⟨rfl, rfl⟩ | ⟨rfl, rfl⟩ | ⟨rfl, rfl⟩ | ⟨rfl, rfl⟩ | ⟨rfl, rfl⟩ | ⟨rfl, rfl⟩ | ⟨rfl, rfl⟩ | ⟨rfl, rfl⟩ | ⟨rfl, rfl⟩ | ⟨rfl, rfl⟩ | ⟨rfl, rfl⟩ | ⟨rfl, rfl⟩ | ⟨rfl, rfl⟩ | ⟨rfl, rfl⟩ | ⟨rfl, rfl⟩ | ⟨rfl, rfl⟩ | ⟨rfl, rfl⟩ | ⟨rfl, rfl⟩ | ⟨rfl, rfl⟩ | ⟨rfl, rfl⟩ | ⟨rfl, rfl⟩ | ⟨rfl, rfl⟩ | ⟨rfl, rfl⟩ | ⟨rfl, rfl⟩ | ⟨rfl, rfl⟩ | ⟨rfl, rfl⟩ | ⟨rfl, rfl⟩ | ⟨rfl, rfl⟩ | ⟨rfl, rfl⟩ | ⟨rfl, rfl⟩ | ⟨rfl, rfl⟩ | ⟨rfl, rfl⟩ | ⟨rfl, rfl⟩ | ⟨rfl, rfl⟩ | ⟨rfl, rfl⟩ | ⟨rfl, rfl⟩ | ⟨rfl, rfl⟩ | ⟨rfl, rfl⟩ | ⟨rfl, rfl⟩ | ⟨rfl, rfl⟩ | ⟨rfl, rfl⟩ | ⟨rfl, rfl⟩ | ⟨rfl, rfl⟩ | ⟨rfl, rfl⟩ | ⟨rfl, rfl⟩ | ⟨rfl, rfl⟩ | ⟨rfl, rfl⟩ | ⟨rfl, rfl⟩ | ⟨rfl, rfl⟩ | ⟨rfl, rfl⟩ | ⟨rfl, rfl⟩ | ⟨rfl, rfl⟩ | ⟨rfl, rfl⟩ | ⟨rfl, rfl⟩ | ⟨rfl, rfl⟩ | ⟨rfl, rfl⟩ | ⟨rfl, rfl⟩ | ⟨rfl, rfl⟩ | ⟨rfl, rfl⟩ | ⟨rfl, rfl⟩ | ⟨rfl, rfl⟩ | ⟨rfl, rfl⟩ | ⟨rfl, rfl⟩ | ⟨rfl, rfl⟩ | ⟨rfl, rfl⟩ | ⟨rfl, rfl⟩ | ⟨rfl, rfl⟩ | ⟨rfl, rfl⟩ | ⟨rfl, rfl⟩ | ⟨rfl, rfl⟩ | ⟨rfl, rfl⟩ | ⟨rfl, rfl⟩ | ⟨rfl, rfl⟩ | ⟨rfl, rfl⟩ | ⟨rfl, rfl⟩ | ⟨rfl, rfl⟩ | ⟨rfl, rfl⟩ | ⟨rfl, rfl⟩ | ⟨rfl, rfl⟩ | ⟨rfl, rfl⟩ | ⟨rfl, rfl⟩ | ⟨rfl, rfl⟩ | ⟨rfl, rfl⟩ | ⟨rfl, rfl⟩ | ⟨rfl, rfl⟩ | ⟨rfl, rfl⟩ | ⟨rfl, rfl⟩ | ⟨rfl, rfl⟩ | ⟨rfl, rfl⟩ | ⟨rfl, rfl⟩ | ⟨rfl, rfl⟩ | ⟨rfl, rfl⟩ | ⟨rfl, rfl⟩ | ⟨rfl, rfl⟩ | ⟨rfl, rfl⟩ | ⟨rfl, rfl⟩ | ⟨rfl, rfl⟩ | ⟨rfl, rfl⟩ | ⟨rfl, rfl⟩ | ⟨rfl, rfl⟩ | ⟨rfl, rfl⟩ | ⟨rfl, rfl⟩
  · exact ty1_ok
  · exact ty2_ok
  · exact ty3_ok
  · exact ty4_ok
  · exact ty5_ok
  · exact ty9_ok
  · exact ty12_ok
  · exact ty21_ok
  · exact ty22_ok
  · exact ty23_ok
  · exact ty26_ok
  · exact ty28_ok
  · exact ty30_ok
  · exact ty32_ok
  · exact ty24_ok
  · exact ty25_ok
  · exact ty27_ok
  · exact ty29_ok
  · exact ty31_ok
  · exact ty33_ok
  · exact ty34_ok
  · exact ty35_ok
  · exact ty36_ok
  · exact ty55_ok
  · exact ty56_ok
  · exact ty37_ok
  · exact ty38_ok
  · exact ty39_ok
  · exact ty40_ok
  · exact ty41_ok
  · exact ty42_ok
  · exact ty43_ok
  · exact ty44_ok
  · exact ty45_ok
  · exact ty46_ok
  · exact ty47_ok
  · exact ty48_ok
  · exact ty49_ok
  · exact ty50_ok
  · exact ty51_ok
  · exact ty53_ok
  · exact ty54_ok
  · exact ty57_ok
  · exact ty58_ok
  · exact ty59_ok
  · exact ty60_ok
  · exact ty61_ok
  · exact ty62_ok
  · exact ty63_ok
  · exact ty64_ok
  · exact ty65_ok
  · exact ty66_ok
  · exact ty67_ok
  · exact ty68_ok
  · exact ty69_ok
  · exact ty70_ok
  · exact ty71_ok
  · exact ty72_ok
  · exact ty73_ok
  · exact ty75_ok
  · exact ty76_ok
  · exact ty77_ok
  · exact ty74_ok
  · exact ty78_ok
  · exact ty79_ok
  · exact ty80_ok
  · exact ty81_ok
  · exact ty82_ok
  · exact ty83_ok
  · exact ty85_ok
  · exact ty120_ok
  · exact ty179_ok
  · exact ty86_ok
  · exact ty88_ok
  · exact ty89_ok
  · exact ty90_ok
  · exact ty92_ok
  · exact ty94_ok
  · exact ty95_ok
  · exact ty96_ok
  · exact ty97_ok
  · exact ty98_ok
  · exact ty99_ok
  · exact ty100_ok
  · exact ty102_ok
  · exact ty103_ok
  · exact ty104_ok
  · exact ty105_ok
  · exact ty110_ok
  · exact ty106_ok
  · exact ty107_ok
  · exact ty108_ok
  · exact ty109_ok
  · exact ty112_ok
  · exact ty113_ok
  · exact ty115_ok
  · exact ty116_ok
  · exact ty195_ok
  · exact ty175_ok
  · exact ty117_ok
  · exact ty118_ok
  · exact ty119_ok
  · exact ty122_ok
  · exact ty123_ok
  · exact ty124_ok
  · exact ty125_ok
  · exact ty126_ok
  · exact ty129_ok
  · exact ty130_ok
  · exact ty131_ok
  · exact ty132_ok
  · exact ty133_ok
  · exact ty134_ok
  · exact ty135_ok
  · exact ty147_ok
  · exact ty148_ok
  · exact ty150_ok
  · exact ty151_ok
  · exact ty152_ok
  · exact ty153_ok
  · exact ty154_ok
  · exact ty155_ok
  · exact ty156_ok
  · exact ty157_ok
  · exact ty159_ok
  · exact ty160_ok
  · exact ty162_ok
  · exact ty163_ok
  · exact ty164_ok
  · exact ty166_ok
  · exact ty167_ok
  · exact ty169_ok
  · exact ty170_ok
  · exact ty171_ok
  · exact ty172_ok
  · exact ty173_ok
  · exact ty174_ok
  · exact ty176_ok
  · exact ty177_ok
  · exact ty178_ok
  · exact ty180_ok
  · exact ty181_ok
  · exact ty182_ok
  · exact ty183_ok
  · exact ty186_ok
  · exact ty187_ok
  · exact ty188_ok
  · exact ty189_ok
  · exact ty190_ok
  · exact ty191_ok
  · exact ty192_ok
  · exact ty193_ok
  · exact ty194_ok
  · exact ty196_ok
  · exact ty197_ok
  · exact ty198_ok
  · exact ty199_ok
  · exact ty200_ok
  · exact ty201_ok
  · exact ty202_ok
  · exact ty203_ok
  · exact ty204_ok
  · exact ty205_ok
  · exact ty206_ok
  · exact ty207_ok
  · exact ty208_ok
  · exact ty209_ok
  · exact ty210_ok
  · exact ty211_ok
  · exact ty212_ok
  · exact ty213_ok
  · exact ty214_ok
  · exact ty215_ok
  · exact ty216_ok
  · exact ty217_ok
  · exact ty218_ok
  · exact ty219_ok
  · exact ty221_ok
  · exact ty222_ok
  · exact ty223_ok
  · exact ty225_ok
  · exact ty226_ok
  · exact ty229_ok
  · exact ty230_ok
  · exact ty231_ok
  · exact ty233_ok
  · exact ty234_ok
  · exact ty235_ok
  · exact ty236_ok
  · exact ty237_ok
  · exact ty238_ok
  · exact ty239_ok
  · exact ty240_ok
  · exact ty249_ok
  · exact ty254_ok
  · exact ty255_ok
theorem follows : Tryz.prog.follows .mixedOrders = true := by kernel_rfl
end Go.Proofs.YtggappbiedkopaaGreat
