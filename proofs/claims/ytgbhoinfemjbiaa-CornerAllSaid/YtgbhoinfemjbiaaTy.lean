/- The rows of the type table that the walks need. Printed by gen_ty.py. -/
import Derived.Test.YtgbhoinfemjbiaaSo
import Derived.Test.YtgbhoinfemjbiaaProg
import Derived.KernelRfl
namespace Go.Proofs.Ytgbhoinfemjbiaa
open Go SX
set_option linter.unusedVariables false
set_option maxRecDepth 100000

@[reducible] def ty1 : TI := ⟨1, 8, [.nilFunc], .sc, none⟩
theorem ty1_ok : TIok Try.prog 1 ty1 where
  info := ⟨Try.types.getD 1 default, .nilFunc, by kernel_rfl, by kernel_rfl, by kernel_rfl, by kernel_rfl, rfl, rfl, rfl⟩
  kd := (show ∃ d, Try.prog.underlying 1 = some d ∧ scD d = true from ⟨(Try.prog.underlying 1).getD .bool, by kernel_rfl, by kernel_rfl⟩)
  eq := fun es h => by cases h
@[reducible] def ty2 : TI := ⟨1, 8, [.int .i64 0], .int .i64, none⟩
theorem ty2_ok : TIok Try.prog 2 ty2 where
  info := ⟨Try.types.getD 2 default, .int .i64 0, by kernel_rfl, by kernel_rfl, by kernel_rfl, by kernel_rfl, rfl, rfl, rfl⟩
  kd := (show Try.prog.underlying 2 = some (.int .i64) from by kernel_rfl)
  eq := fun es h => by cases h
theorem ty2_eq : EqOK Try.prog ty2 2 [.int .i64] 1 := eq_int (by kernel_rfl) rfl
@[reducible] def ty3 : TI := ⟨1, 8, [.int .i64 0], .int .i64, none⟩
theorem ty3_ok : TIok Try.prog 3 ty3 where
  info := ⟨Try.types.getD 3 default, .int .i64 0, by kernel_rfl, by kernel_rfl, by kernel_rfl, by kernel_rfl, rfl, rfl, rfl⟩
  kd := (show Try.prog.underlying 3 = some (.int .i64) from by kernel_rfl)
  eq := fun es h => by cases h
theorem ty3_eq : EqOK Try.prog ty3 3 [.int .i64] 1 := eq_int (by kernel_rfl) rfl
@[reducible] def ty4 : TI := ⟨1, 1, [.bool false], .bl, none⟩
theorem ty4_ok : TIok Try.prog 4 ty4 where
  info := ⟨Try.types.getD 4 default, .bool false, by kernel_rfl, by kernel_rfl, by kernel_rfl, by kernel_rfl, rfl, rfl, rfl⟩
  kd := (show Try.prog.underlying 4 = some .bool from by kernel_rfl)
  eq := fun es h => by cases h
theorem ty4_eq : EqOK Try.prog ty4 4 [.bool] 1 := eq_bool (by kernel_rfl) rfl
@[reducible] def ty5 : TI := ⟨1, 1, [.int .u8 0], .int .u8, none⟩
theorem ty5_ok : TIok Try.prog 5 ty5 where
  info := ⟨Try.types.getD 5 default, .int .u8 0, by kernel_rfl, by kernel_rfl, by kernel_rfl, by kernel_rfl, rfl, rfl, rfl⟩
  kd := (show Try.prog.underlying 5 = some (.int .u8) from by kernel_rfl)
  eq := fun es h => by cases h
theorem ty5_eq : EqOK Try.prog ty5 5 [.int .u8] 1 := eq_int (by kernel_rfl) rfl
@[reducible] def ty9 : TI := ⟨1, 16, [.string .empty], .sc, none⟩
theorem ty9_ok : TIok Try.prog 9 ty9 where
  info := ⟨Try.types.getD 9 default, .string .empty, by kernel_rfl, by kernel_rfl, by kernel_rfl, by kernel_rfl, rfl, rfl, rfl⟩
  kd := (show ∃ d, Try.prog.underlying 9 = some d ∧ scD d = true from ⟨(Try.prog.underlying 9).getD .bool, by kernel_rfl, by kernel_rfl⟩)
  eq := fun es h => by cases h
@[reducible] def ty12 : TI := ⟨1, 8, [.int .u64 0], .int .u64, none⟩
theorem ty12_ok : TIok Try.prog 12 ty12 where
  info := ⟨Try.types.getD 12 default, .int .u64 0, by kernel_rfl, by kernel_rfl, by kernel_rfl, by kernel_rfl, rfl, rfl, rfl⟩
  kd := (show Try.prog.underlying 12 = some (.int .u64) from by kernel_rfl)
  eq := fun es h => by cases h
theorem ty12_eq : EqOK Try.prog ty12 12 [.int .u64] 1 := eq_int (by kernel_rfl) rfl
@[reducible] def ty21 : TI := ⟨1, 4, [.int .i32 0], .int .i32, none⟩
theorem ty21_ok : TIok Try.prog 21 ty21 where
  info := ⟨Try.types.getD 21 default, .int .i32 0, by kernel_rfl, by kernel_rfl, by kernel_rfl, by kernel_rfl, rfl, rfl, rfl⟩
  kd := (show Try.prog.underlying 21 = some (.int .i32) from by kernel_rfl)
  eq := fun es h => by cases h
theorem ty21_eq : EqOK Try.prog ty21 21 [.int .i32] 1 := eq_int (by kernel_rfl) rfl
@[reducible] def ty22 : TI := ⟨2, 16, [.int .i64 0, .int .i64 0], .st [(0, 3), (1, 3)], some [.int .i64, .int .i64]⟩
theorem ty22_eq : EqOK Try.prog ty22 22 [.int .i64, .int .i64] 2 := eq_struct (fs := Try.prog.fieldsOf 22) (by kernel_rfl) (by kernel_rfl) rfl (.of (show (Try.prog.fieldsOf 22).toList = [(Try.prog.fieldsOf 22).getD 0 default, (Try.prog.fieldsOf 22).getD 1 default] by kernel_rfl) (.c (f := (Try.prog.fieldsOf 22).getD 0 default) (by kernel_rfl) (by kernel_rfl) (by kernel_rfl) ty3_ok ty3_eq rfl (.inr rfl) (.c (f := (Try.prog.fieldsOf 22).getD 1 default) (by kernel_rfl) (by kernel_rfl) (by kernel_rfl) ty3_ok ty3_eq rfl (.inr rfl) (.nil _))))
theorem ty22_ok : TIok Try.prog 22 ty22 where
  info := ⟨Try.types.getD 22 default, .agg #[.int .i64 0, .int .i64 0], by kernel_rfl, by kernel_rfl, by kernel_rfl, by kernel_rfl, rfl, rfl, rfl⟩
  kd := (show ∃ fields, Try.prog.underlying 22 = some (.struct fields) ∧ fields.toList.map (fun f => (f.offset, f.type)) = [(0, 3), (1, 3)] from ⟨Try.prog.fieldsOf 22, by kernel_rfl, by kernel_rfl⟩)
  eq := fun es h xs ys hx hy x y w => by
    cases h
    exact eq_of (m := 2) (by decide) rfl (by kernel_rfl) ty22_eq xs ys hx hy x y w
@[reducible] def ty23 : TI := ⟨2, 16, [.int .i64 0, .int .i64 0], .st [(0, 3), (1, 3)], some [.int .i64, .int .i64]⟩
theorem ty23_eq : EqOK Try.prog ty23 23 [.int .i64, .int .i64] 2 := eq_struct (fs := Try.prog.fieldsOf 23) (by kernel_rfl) (by kernel_rfl) rfl (.of (show (Try.prog.fieldsOf 23).toList = [(Try.prog.fieldsOf 23).getD 0 default, (Try.prog.fieldsOf 23).getD 1 default] by kernel_rfl) (.c (f := (Try.prog.fieldsOf 23).getD 0 default) (by kernel_rfl) (by kernel_rfl) (by kernel_rfl) ty3_ok ty3_eq rfl (.inr rfl) (.c (f := (Try.prog.fieldsOf 23).getD 1 default) (by kernel_rfl) (by kernel_rfl) (by kernel_rfl) ty3_ok ty3_eq rfl (.inr rfl) (.nil _))))
theorem ty23_ok : TIok Try.prog 23 ty23 where
  info := ⟨Try.types.getD 23 default, .agg #[.int .i64 0, .int .i64 0], by kernel_rfl, by kernel_rfl, by kernel_rfl, by kernel_rfl, rfl, rfl, rfl⟩
  kd := (show ∃ fields, Try.prog.underlying 23 = some (.struct fields) ∧ fields.toList.map (fun f => (f.offset, f.type)) = [(0, 3), (1, 3)] from ⟨Try.prog.fieldsOf 23, by kernel_rfl, by kernel_rfl⟩)
  eq := fun es h xs ys hx hy x y w => by
    cases h
    exact eq_of (m := 2) (by decide) rfl (by kernel_rfl) ty23_eq xs ys hx hy x y w
@[reducible] def ty24 : TI := ⟨7, 56, [.int .i64 0, .int .i64 0, .int .i64 0, .int .i64 0, .int .i64 0, .int .i64 0, .bool false], .st [(0, 23), (2, 23), (4, 23), (6, 4)], some [.int .i64, .int .i64, .int .i64, .int .i64, .int .i64, .int .i64, .bool]⟩
theorem ty24_eq : EqOK Try.prog ty24 24 [.int .i64, .int .i64, .int .i64, .int .i64, .int .i64, .int .i64, .bool] 3 := eq_struct (fs := Try.prog.fieldsOf 24) (by kernel_rfl) (by kernel_rfl) rfl (.of (show (Try.prog.fieldsOf 24).toList = [(Try.prog.fieldsOf 24).getD 0 default, (Try.prog.fieldsOf 24).getD 1 default, (Try.prog.fieldsOf 24).getD 2 default, (Try.prog.fieldsOf 24).getD 3 default] by kernel_rfl) (.c (f := (Try.prog.fieldsOf 24).getD 0 default) (by kernel_rfl) (by kernel_rfl) (by kernel_rfl) ty23_ok ty23_eq rfl (.inl rfl) (.c (f := (Try.prog.fieldsOf 24).getD 1 default) (by kernel_rfl) (by kernel_rfl) (by kernel_rfl) ty23_ok ty23_eq rfl (.inl rfl) (.c (f := (Try.prog.fieldsOf 24).getD 2 default) (by kernel_rfl) (by kernel_rfl) (by kernel_rfl) ty23_ok ty23_eq rfl (.inl rfl) (.c (f := (Try.prog.fieldsOf 24).getD 3 default) (by kernel_rfl) (by kernel_rfl) (by kernel_rfl) ty4_ok ty4_eq.up rfl (.inr rfl) (.nil _))))))
theorem ty24_ok : TIok Try.prog 24 ty24 where
  info := ⟨Try.types.getD 24 default, .agg #[.int .i64 0, .int .i64 0, .int .i64 0, .int .i64 0, .int .i64 0, .int .i64 0, .bool false], by kernel_rfl, by kernel_rfl, by kernel_rfl, by kernel_rfl, rfl, rfl, rfl⟩
  kd := (show ∃ fields, Try.prog.underlying 24 = some (.struct fields) ∧ fields.toList.map (fun f => (f.offset, f.type)) = [(0, 23), (2, 23), (4, 23), (6, 4)] from ⟨Try.prog.fieldsOf 24, by kernel_rfl, by kernel_rfl⟩)
  eq := fun es h xs ys hx hy x y w => by
    cases h
    exact eq_of (m := 3) (by decide) rfl (by kernel_rfl) ty24_eq xs ys hx hy x y w
@[reducible] def ty25 : TI := ⟨7, 56, [.int .i64 0, .int .i64 0, .int .i64 0, .int .i64 0, .int .i64 0, .int .i64 0, .bool false], .st [(0, 23), (2, 23), (4, 23), (6, 4)], some [.int .i64, .int .i64, .int .i64, .int .i64, .int .i64, .int .i64, .bool]⟩
theorem ty25_eq : EqOK Try.prog ty25 25 [.int .i64, .int .i64, .int .i64, .int .i64, .int .i64, .int .i64, .bool] 3 := eq_struct (fs := Try.prog.fieldsOf 25) (by kernel_rfl) (by kernel_rfl) rfl (.of (show (Try.prog.fieldsOf 25).toList = [(Try.prog.fieldsOf 25).getD 0 default, (Try.prog.fieldsOf 25).getD 1 default, (Try.prog.fieldsOf 25).getD 2 default, (Try.prog.fieldsOf 25).getD 3 default] by kernel_rfl) (.c (f := (Try.prog.fieldsOf 25).getD 0 default) (by kernel_rfl) (by kernel_rfl) (by kernel_rfl) ty23_ok ty23_eq rfl (.inl rfl) (.c (f := (Try.prog.fieldsOf 25).getD 1 default) (by kernel_rfl) (by kernel_rfl) (by kernel_rfl) ty23_ok ty23_eq rfl (.inl rfl) (.c (f := (Try.prog.fieldsOf 25).getD 2 default) (by kernel_rfl) (by kernel_rfl) (by kernel_rfl) ty23_ok ty23_eq rfl (.inl rfl) (.c (f := (Try.prog.fieldsOf 25).getD 3 default) (by kernel_rfl) (by kernel_rfl) (by kernel_rfl) ty4_ok ty4_eq.up rfl (.inr rfl) (.nil _))))))
theorem ty25_ok : TIok Try.prog 25 ty25 where
  info := ⟨Try.types.getD 25 default, .agg #[.int .i64 0, .int .i64 0, .int .i64 0, .int .i64 0, .int .i64 0, .int .i64 0, .bool false], by kernel_rfl, by kernel_rfl, by kernel_rfl, by kernel_rfl, rfl, rfl, rfl⟩
  kd := (show ∃ fields, Try.prog.underlying 25 = some (.struct fields) ∧ fields.toList.map (fun f => (f.offset, f.type)) = [(0, 23), (2, 23), (4, 23), (6, 4)] from ⟨Try.prog.fieldsOf 25, by kernel_rfl, by kernel_rfl⟩)
  eq := fun es h xs ys hx hy x y w => by
    cases h
    exact eq_of (m := 3) (by decide) rfl (by kernel_rfl) ty25_eq xs ys hx hy x y w
@[reducible] def ty26 : TI := ⟨1, 8, [.nilFunc], .sc, none⟩
theorem ty26_ok : TIok Try.prog 26 ty26 where
  info := ⟨Try.types.getD 26 default, .nilFunc, by kernel_rfl, by kernel_rfl, by kernel_rfl, by kernel_rfl, rfl, rfl, rfl⟩
  kd := (show ∃ d, Try.prog.underlying 26 = some d ∧ scD d = true from ⟨(Try.prog.underlying 26).getD .bool, by kernel_rfl, by kernel_rfl⟩)
  eq := fun es h => by cases h
@[reducible] def ty27 : TI := ⟨1, 8, [.pointer none], .pt 23, none⟩
theorem ty27_ok : TIok Try.prog 27 ty27 where
  info := ⟨Try.types.getD 27 default, .pointer none, by kernel_rfl, by kernel_rfl, by kernel_rfl, by kernel_rfl, rfl, rfl, rfl⟩
  kd := (show Try.prog.underlying 27 = some (.pointer 23) from by kernel_rfl)
  eq := fun es h => by cases h
@[reducible] def ty28 : TI := ⟨1, 24, [.slice none 0 0], .sl 27, none⟩
theorem ty28_ok : TIok Try.prog 28 ty28 where
  info := ⟨Try.types.getD 28 default, .slice none 0 0, by kernel_rfl, by kernel_rfl, by kernel_rfl, by kernel_rfl, rfl, rfl, rfl⟩
  kd := (show Try.prog.underlying 28 = some (.slice 27) from by kernel_rfl)
  eq := fun es h => by cases h
@[reducible] def ty29 : TI := ⟨1, 8, [.nilFunc], .sc, none⟩
theorem ty29_ok : TIok Try.prog 29 ty29 where
  info := ⟨Try.types.getD 29 default, .nilFunc, by kernel_rfl, by kernel_rfl, by kernel_rfl, by kernel_rfl, rfl, rfl, rfl⟩
  kd := (show ∃ d, Try.prog.underlying 29 = some d ∧ scD d = true from ⟨(Try.prog.underlying 29).getD .bool, by kernel_rfl, by kernel_rfl⟩)
  eq := fun es h => by cases h
@[reducible] def ty30 : TI := ⟨1, 8, [.nilFunc], .sc, none⟩
theorem ty30_ok : TIok Try.prog 30 ty30 where
  info := ⟨Try.types.getD 30 default, .nilFunc, by kernel_rfl, by kernel_rfl, by kernel_rfl, by kernel_rfl, rfl, rfl, rfl⟩
  kd := (show ∃ d, Try.prog.underlying 30 = some d ∧ scD d = true from ⟨(Try.prog.underlying 30).getD .bool, by kernel_rfl, by kernel_rfl⟩)
  eq := fun es h => by cases h
@[reducible] def ty31 : TI := ⟨1, 24, [.slice none 0 0], .sl 25, none⟩
theorem ty31_ok : TIok Try.prog 31 ty31 where
  info := ⟨Try.types.getD 31 default, .slice none 0 0, by kernel_rfl, by kernel_rfl, by kernel_rfl, by kernel_rfl, rfl, rfl, rfl⟩
  kd := (show Try.prog.underlying 31 = some (.slice 25) from by kernel_rfl)
  eq := fun es h => by cases h
@[reducible] def ty32 : TI := ⟨1, 8, [.nilFunc], .sc, none⟩
theorem ty32_ok : TIok Try.prog 32 ty32 where
  info := ⟨Try.types.getD 32 default, .nilFunc, by kernel_rfl, by kernel_rfl, by kernel_rfl, by kernel_rfl, rfl, rfl, rfl⟩
  kd := (show ∃ d, Try.prog.underlying 32 = some d ∧ scD d = true from ⟨(Try.prog.underlying 32).getD .bool, by kernel_rfl, by kernel_rfl⟩)
  eq := fun es h => by cases h
@[reducible] def ty37 : TI := ⟨4, 32, [.int .i64 0, .int .i64 0, .int .i64 0, .int .i64 0], .st [(0, 23), (2, 23)], some [.int .i64, .int .i64, .int .i64, .int .i64]⟩
theorem ty37_eq : EqOK Try.prog ty37 37 [.int .i64, .int .i64, .int .i64, .int .i64] 3 := eq_struct (fs := Try.prog.fieldsOf 37) (by kernel_rfl) (by kernel_rfl) rfl (.of (show (Try.prog.fieldsOf 37).toList = [(Try.prog.fieldsOf 37).getD 0 default, (Try.prog.fieldsOf 37).getD 1 default] by kernel_rfl) (.c (f := (Try.prog.fieldsOf 37).getD 0 default) (by kernel_rfl) (by kernel_rfl) (by kernel_rfl) ty23_ok ty23_eq rfl (.inl rfl) (.c (f := (Try.prog.fieldsOf 37).getD 1 default) (by kernel_rfl) (by kernel_rfl) (by kernel_rfl) ty23_ok ty23_eq rfl (.inl rfl) (.nil _))))
theorem ty37_ok : TIok Try.prog 37 ty37 where
  info := ⟨Try.types.getD 37 default, .agg #[.int .i64 0, .int .i64 0, .int .i64 0, .int .i64 0], by kernel_rfl, by kernel_rfl, by kernel_rfl, by kernel_rfl, rfl, rfl, rfl⟩
  kd := (show ∃ fields, Try.prog.underlying 37 = some (.struct fields) ∧ fields.toList.map (fun f => (f.offset, f.type)) = [(0, 23), (2, 23)] from ⟨Try.prog.fieldsOf 37, by kernel_rfl, by kernel_rfl⟩)
  eq := fun es h xs ys hx hy x y w => by
    cases h
    exact eq_of (m := 3) (by decide) rfl (by kernel_rfl) ty37_eq xs ys hx hy x y w
@[reducible] def ty33 : TI := ⟨1, 24, [.slice none 0 0], .sl 37, none⟩
theorem ty33_ok : TIok Try.prog 33 ty33 where
  info := ⟨Try.types.getD 33 default, .slice none 0 0, by kernel_rfl, by kernel_rfl, by kernel_rfl, by kernel_rfl, rfl, rfl, rfl⟩
  kd := (show Try.prog.underlying 33 = some (.slice 37) from by kernel_rfl)
  eq := fun es h => by cases h
@[reducible] def ty34 : TI := ⟨1, 8, [.nilFunc], .sc, none⟩
theorem ty34_ok : TIok Try.prog 34 ty34 where
  info := ⟨Try.types.getD 34 default, .nilFunc, by kernel_rfl, by kernel_rfl, by kernel_rfl, by kernel_rfl, rfl, rfl, rfl⟩
  kd := (show ∃ d, Try.prog.underlying 34 = some d ∧ scD d = true from ⟨(Try.prog.underlying 34).getD .bool, by kernel_rfl, by kernel_rfl⟩)
  eq := fun es h => by cases h
@[reducible] def ty35 : TI := ⟨1, 8, [.nilFunc], .sc, none⟩
theorem ty35_ok : TIok Try.prog 35 ty35 where
  info := ⟨Try.types.getD 35 default, .nilFunc, by kernel_rfl, by kernel_rfl, by kernel_rfl, by kernel_rfl, rfl, rfl, rfl⟩
  kd := (show ∃ d, Try.prog.underlying 35 = some d ∧ scD d = true from ⟨(Try.prog.underlying 35).getD .bool, by kernel_rfl, by kernel_rfl⟩)
  eq := fun es h => by cases h
@[reducible] def ty36 : TI := ⟨4, 32, [.int .i64 0, .int .i64 0, .int .i64 0, .int .i64 0], .st [(0, 23), (2, 23)], some [.int .i64, .int .i64, .int .i64, .int .i64]⟩
theorem ty36_eq : EqOK Try.prog ty36 36 [.int .i64, .int .i64, .int .i64, .int .i64] 3 := eq_struct (fs := Try.prog.fieldsOf 36) (by kernel_rfl) (by kernel_rfl) rfl (.of (show (Try.prog.fieldsOf 36).toList = [(Try.prog.fieldsOf 36).getD 0 default, (Try.prog.fieldsOf 36).getD 1 default] by kernel_rfl) (.c (f := (Try.prog.fieldsOf 36).getD 0 default) (by kernel_rfl) (by kernel_rfl) (by kernel_rfl) ty23_ok ty23_eq rfl (.inl rfl) (.c (f := (Try.prog.fieldsOf 36).getD 1 default) (by kernel_rfl) (by kernel_rfl) (by kernel_rfl) ty23_ok ty23_eq rfl (.inl rfl) (.nil _))))
theorem ty36_ok : TIok Try.prog 36 ty36 where
  info := ⟨Try.types.getD 36 default, .agg #[.int .i64 0, .int .i64 0, .int .i64 0, .int .i64 0], by kernel_rfl, by kernel_rfl, by kernel_rfl, by kernel_rfl, rfl, rfl, rfl⟩
  kd := (show ∃ fields, Try.prog.underlying 36 = some (.struct fields) ∧ fields.toList.map (fun f => (f.offset, f.type)) = [(0, 23), (2, 23)] from ⟨Try.prog.fieldsOf 36, by kernel_rfl, by kernel_rfl⟩)
  eq := fun es h xs ys hx hy x y w => by
    cases h
    exact eq_of (m := 3) (by decide) rfl (by kernel_rfl) ty36_eq xs ys hx hy x y w
@[reducible] def ty38 : TI := ⟨1, 8, [.nilFunc], .sc, none⟩
theorem ty38_ok : TIok Try.prog 38 ty38 where
  info := ⟨Try.types.getD 38 default, .nilFunc, by kernel_rfl, by kernel_rfl, by kernel_rfl, by kernel_rfl, rfl, rfl, rfl⟩
  kd := (show ∃ d, Try.prog.underlying 38 = some d ∧ scD d = true from ⟨(Try.prog.underlying 38).getD .bool, by kernel_rfl, by kernel_rfl⟩)
  eq := fun es h => by cases h
@[reducible] def ty39 : TI := ⟨1, 8, [.nilFunc], .sc, none⟩
theorem ty39_ok : TIok Try.prog 39 ty39 where
  info := ⟨Try.types.getD 39 default, .nilFunc, by kernel_rfl, by kernel_rfl, by kernel_rfl, by kernel_rfl, rfl, rfl, rfl⟩
  kd := (show ∃ d, Try.prog.underlying 39 = some d ∧ scD d = true from ⟨(Try.prog.underlying 39).getD .bool, by kernel_rfl, by kernel_rfl⟩)
  eq := fun es h => by cases h
@[reducible] def ty40 : TI := ⟨1, 2, [.int .i16 0], .int .i16, none⟩
theorem ty40_ok : TIok Try.prog 40 ty40 where
  info := ⟨Try.types.getD 40 default, .int .i16 0, by kernel_rfl, by kernel_rfl, by kernel_rfl, by kernel_rfl, rfl, rfl, rfl⟩
  kd := (show Try.prog.underlying 40 = some (.int .i16) from by kernel_rfl)
  eq := fun es h => by cases h
theorem ty40_eq : EqOK Try.prog ty40 40 [.int .i16] 1 := eq_int (by kernel_rfl) rfl
@[reducible] def ty41 : TI := ⟨2, 4, [.int .i16 0, .int .i16 0], .st [(0, 40), (1, 40)], some [.int .i16, .int .i16]⟩
theorem ty41_eq : EqOK Try.prog ty41 41 [.int .i16, .int .i16] 2 := eq_struct (fs := Try.prog.fieldsOf 41) (by kernel_rfl) (by kernel_rfl) rfl (.of (show (Try.prog.fieldsOf 41).toList = [(Try.prog.fieldsOf 41).getD 0 default, (Try.prog.fieldsOf 41).getD 1 default] by kernel_rfl) (.c (f := (Try.prog.fieldsOf 41).getD 0 default) (by kernel_rfl) (by kernel_rfl) (by kernel_rfl) ty40_ok ty40_eq rfl (.inr rfl) (.c (f := (Try.prog.fieldsOf 41).getD 1 default) (by kernel_rfl) (by kernel_rfl) (by kernel_rfl) ty40_ok ty40_eq rfl (.inr rfl) (.nil _))))
theorem ty41_ok : TIok Try.prog 41 ty41 where
  info := ⟨Try.types.getD 41 default, .agg #[.int .i16 0, .int .i16 0], by kernel_rfl, by kernel_rfl, by kernel_rfl, by kernel_rfl, rfl, rfl, rfl⟩
  kd := (show ∃ fields, Try.prog.underlying 41 = some (.struct fields) ∧ fields.toList.map (fun f => (f.offset, f.type)) = [(0, 40), (1, 40)] from ⟨Try.prog.fieldsOf 41, by kernel_rfl, by kernel_rfl⟩)
  eq := fun es h xs ys hx hy x y w => by
    cases h
    exact eq_of (m := 2) (by decide) rfl (by kernel_rfl) ty41_eq xs ys hx hy x y w
@[reducible] def ty42 : TI := ⟨2, 4, [.int .i16 0, .int .i16 0], .st [(0, 40), (1, 40)], some [.int .i16, .int .i16]⟩
theorem ty42_eq : EqOK Try.prog ty42 42 [.int .i16, .int .i16] 2 := eq_struct (fs := Try.prog.fieldsOf 42) (by kernel_rfl) (by kernel_rfl) rfl (.of (show (Try.prog.fieldsOf 42).toList = [(Try.prog.fieldsOf 42).getD 0 default, (Try.prog.fieldsOf 42).getD 1 default] by kernel_rfl) (.c (f := (Try.prog.fieldsOf 42).getD 0 default) (by kernel_rfl) (by kernel_rfl) (by kernel_rfl) ty40_ok ty40_eq rfl (.inr rfl) (.c (f := (Try.prog.fieldsOf 42).getD 1 default) (by kernel_rfl) (by kernel_rfl) (by kernel_rfl) ty40_ok ty40_eq rfl (.inr rfl) (.nil _))))
theorem ty42_ok : TIok Try.prog 42 ty42 where
  info := ⟨Try.types.getD 42 default, .agg #[.int .i16 0, .int .i16 0], by kernel_rfl, by kernel_rfl, by kernel_rfl, by kernel_rfl, rfl, rfl, rfl⟩
  kd := (show ∃ fields, Try.prog.underlying 42 = some (.struct fields) ∧ fields.toList.map (fun f => (f.offset, f.type)) = [(0, 40), (1, 40)] from ⟨Try.prog.fieldsOf 42, by kernel_rfl, by kernel_rfl⟩)
  eq := fun es h xs ys hx hy x y w => by
    cases h
    exact eq_of (m := 2) (by decide) rfl (by kernel_rfl) ty42_eq xs ys hx hy x y w
@[reducible] def ty43 : TI := ⟨1, 8, [.nilFunc], .sc, none⟩
theorem ty43_ok : TIok Try.prog 43 ty43 where
  info := ⟨Try.types.getD 43 default, .nilFunc, by kernel_rfl, by kernel_rfl, by kernel_rfl, by kernel_rfl, rfl, rfl, rfl⟩
  kd := (show ∃ d, Try.prog.underlying 43 = some d ∧ scD d = true from ⟨(Try.prog.underlying 43).getD .bool, by kernel_rfl, by kernel_rfl⟩)
  eq := fun es h => by cases h
@[reducible] def ty44 : TI := ⟨1, 8, [.nilFunc], .sc, none⟩
theorem ty44_ok : TIok Try.prog 44 ty44 where
  info := ⟨Try.types.getD 44 default, .nilFunc, by kernel_rfl, by kernel_rfl, by kernel_rfl, by kernel_rfl, rfl, rfl, rfl⟩
  kd := (show ∃ d, Try.prog.underlying 44 = some d ∧ scD d = true from ⟨(Try.prog.underlying 44).getD .bool, by kernel_rfl, by kernel_rfl⟩)
  eq := fun es h => by cases h
@[reducible] def ty45 : TI := ⟨1, 8, [.nilFunc], .sc, none⟩
theorem ty45_ok : TIok Try.prog 45 ty45 where
  info := ⟨Try.types.getD 45 default, .nilFunc, by kernel_rfl, by kernel_rfl, by kernel_rfl, by kernel_rfl, rfl, rfl, rfl⟩
  kd := (show ∃ d, Try.prog.underlying 45 = some d ∧ scD d = true from ⟨(Try.prog.underlying 45).getD .bool, by kernel_rfl, by kernel_rfl⟩)
  eq := fun es h => by cases h
@[reducible] def ty77 : TI := ⟨3, 6, [.int .i16 0, .int .i16 0, .bool false], .st [(0, 40), (1, 40), (2, 4)], some [.int .i16, .int .i16, .bool]⟩
theorem ty77_eq : EqOK Try.prog ty77 77 [.int .i16, .int .i16, .bool] 2 := eq_struct (fs := Try.prog.fieldsOf 77) (by kernel_rfl) (by kernel_rfl) rfl (.of (show (Try.prog.fieldsOf 77).toList = [(Try.prog.fieldsOf 77).getD 0 default, (Try.prog.fieldsOf 77).getD 1 default, (Try.prog.fieldsOf 77).getD 2 default] by kernel_rfl) (.c (f := (Try.prog.fieldsOf 77).getD 0 default) (by kernel_rfl) (by kernel_rfl) (by kernel_rfl) ty40_ok ty40_eq rfl (.inr rfl) (.c (f := (Try.prog.fieldsOf 77).getD 1 default) (by kernel_rfl) (by kernel_rfl) (by kernel_rfl) ty40_ok ty40_eq rfl (.inr rfl) (.c (f := (Try.prog.fieldsOf 77).getD 2 default) (by kernel_rfl) (by kernel_rfl) (by kernel_rfl) ty4_ok ty4_eq rfl (.inr rfl) (.nil _)))))
theorem ty77_ok : TIok Try.prog 77 ty77 where
  info := ⟨Try.types.getD 77 default, .agg #[.int .i16 0, .int .i16 0, .bool false], by kernel_rfl, by kernel_rfl, by kernel_rfl, by kernel_rfl, rfl, rfl, rfl⟩
  kd := (show ∃ fields, Try.prog.underlying 77 = some (.struct fields) ∧ fields.toList.map (fun f => (f.offset, f.type)) = [(0, 40), (1, 40), (2, 4)] from ⟨Try.prog.fieldsOf 77, by kernel_rfl, by kernel_rfl⟩)
  eq := fun es h xs ys hx hy x y w => by
    cases h
    exact eq_of (m := 2) (by decide) rfl (by kernel_rfl) ty77_eq xs ys hx hy x y w
@[reducible] def ty75 : TI := ⟨1, 24, [.slice none 0 0], .sl 77, none⟩
theorem ty75_ok : TIok Try.prog 75 ty75 where
  info := ⟨Try.types.getD 75 default, .slice none 0 0, by kernel_rfl, by kernel_rfl, by kernel_rfl, by kernel_rfl, rfl, rfl, rfl⟩
  kd := (show Try.prog.underlying 75 = some (.slice 77) from by kernel_rfl)
  eq := fun es h => by cases h
@[reducible] def ty46 : TI := ⟨1, 24, [.slice none 0 0], .sl 75, none⟩
theorem ty46_ok : TIok Try.prog 46 ty46 where
  info := ⟨Try.types.getD 46 default, .slice none 0 0, by kernel_rfl, by kernel_rfl, by kernel_rfl, by kernel_rfl, rfl, rfl, rfl⟩
  kd := (show Try.prog.underlying 46 = some (.slice 75) from by kernel_rfl)
  eq := fun es h => by cases h
@[reducible] def ty47 : TI := ⟨1, 24, [.slice none 0 0], .sl 31, none⟩
theorem ty47_ok : TIok Try.prog 47 ty47 where
  info := ⟨Try.types.getD 47 default, .slice none 0 0, by kernel_rfl, by kernel_rfl, by kernel_rfl, by kernel_rfl, rfl, rfl, rfl⟩
  kd := (show Try.prog.underlying 47 = some (.slice 31) from by kernel_rfl)
  eq := fun es h => by cases h
@[reducible] def ty48 : TI := ⟨1, 8, [.nilFunc], .sc, none⟩
theorem ty48_ok : TIok Try.prog 48 ty48 where
  info := ⟨Try.types.getD 48 default, .nilFunc, by kernel_rfl, by kernel_rfl, by kernel_rfl, by kernel_rfl, rfl, rfl, rfl⟩
  kd := (show ∃ d, Try.prog.underlying 48 = some d ∧ scD d = true from ⟨(Try.prog.underlying 48).getD .bool, by kernel_rfl, by kernel_rfl⟩)
  eq := fun es h => by cases h
@[reducible] def ty79 : TI := ⟨3, 24, [.int .i64 0, .int .i64 0, .bool false], .st [(0, 3), (1, 3), (2, 4)], some [.int .i64, .int .i64, .bool]⟩
theorem ty79_eq : EqOK Try.prog ty79 79 [.int .i64, .int .i64, .bool] 2 := eq_struct (fs := Try.prog.fieldsOf 79) (by kernel_rfl) (by kernel_rfl) rfl (.of (show (Try.prog.fieldsOf 79).toList = [(Try.prog.fieldsOf 79).getD 0 default, (Try.prog.fieldsOf 79).getD 1 default, (Try.prog.fieldsOf 79).getD 2 default] by kernel_rfl) (.c (f := (Try.prog.fieldsOf 79).getD 0 default) (by kernel_rfl) (by kernel_rfl) (by kernel_rfl) ty3_ok ty3_eq rfl (.inr rfl) (.c (f := (Try.prog.fieldsOf 79).getD 1 default) (by kernel_rfl) (by kernel_rfl) (by kernel_rfl) ty3_ok ty3_eq rfl (.inr rfl) (.c (f := (Try.prog.fieldsOf 79).getD 2 default) (by kernel_rfl) (by kernel_rfl) (by kernel_rfl) ty4_ok ty4_eq rfl (.inr rfl) (.nil _)))))
theorem ty79_ok : TIok Try.prog 79 ty79 where
  info := ⟨Try.types.getD 79 default, .agg #[.int .i64 0, .int .i64 0, .bool false], by kernel_rfl, by kernel_rfl, by kernel_rfl, by kernel_rfl, rfl, rfl, rfl⟩
  kd := (show ∃ fields, Try.prog.underlying 79 = some (.struct fields) ∧ fields.toList.map (fun f => (f.offset, f.type)) = [(0, 3), (1, 3), (2, 4)] from ⟨Try.prog.fieldsOf 79, by kernel_rfl, by kernel_rfl⟩)
  eq := fun es h xs ys hx hy x y w => by
    cases h
    exact eq_of (m := 2) (by decide) rfl (by kernel_rfl) ty79_eq xs ys hx hy x y w
@[reducible] def ty73 : TI := ⟨1, 24, [.slice none 0 0], .sl 79, none⟩
theorem ty73_ok : TIok Try.prog 73 ty73 where
  info := ⟨Try.types.getD 73 default, .slice none 0 0, by kernel_rfl, by kernel_rfl, by kernel_rfl, by kernel_rfl, rfl, rfl, rfl⟩
  kd := (show Try.prog.underlying 73 = some (.slice 79) from by kernel_rfl)
  eq := fun es h => by cases h
@[reducible] def ty49 : TI := ⟨1, 24, [.slice none 0 0], .sl 73, none⟩
theorem ty49_ok : TIok Try.prog 49 ty49 where
  info := ⟨Try.types.getD 49 default, .slice none 0 0, by kernel_rfl, by kernel_rfl, by kernel_rfl, by kernel_rfl, rfl, rfl, rfl⟩
  kd := (show Try.prog.underlying 49 = some (.slice 73) from by kernel_rfl)
  eq := fun es h => by cases h
@[reducible] def ty50 : TI := ⟨1, 24, [.slice none 0 0], .st [(0, 49)], none⟩
theorem ty50_ok : TIok Try.prog 50 ty50 where
  info := ⟨Try.types.getD 50 default, .agg #[.slice none 0 0], by kernel_rfl, by kernel_rfl, by kernel_rfl, by kernel_rfl, rfl, rfl, rfl⟩
  kd := (show ∃ fields, Try.prog.underlying 50 = some (.struct fields) ∧ fields.toList.map (fun f => (f.offset, f.type)) = [(0, 49)] from ⟨Try.prog.fieldsOf 50, by kernel_rfl, by kernel_rfl⟩)
  eq := fun es h => by cases h
@[reducible] def ty51 : TI := ⟨1, 24, [.slice none 0 0], .st [(0, 49)], none⟩
theorem ty51_ok : TIok Try.prog 51 ty51 where
  info := ⟨Try.types.getD 51 default, .agg #[.slice none 0 0], by kernel_rfl, by kernel_rfl, by kernel_rfl, by kernel_rfl, rfl, rfl, rfl⟩
  kd := (show ∃ fields, Try.prog.underlying 51 = some (.struct fields) ∧ fields.toList.map (fun f => (f.offset, f.type)) = [(0, 49)] from ⟨Try.prog.fieldsOf 51, by kernel_rfl, by kernel_rfl⟩)
  eq := fun es h => by cases h
@[reducible] def ty52 : TI := ⟨1, 8, [.nilFunc], .sc, none⟩
theorem ty52_ok : TIok Try.prog 52 ty52 where
  info := ⟨Try.types.getD 52 default, .nilFunc, by kernel_rfl, by kernel_rfl, by kernel_rfl, by kernel_rfl, rfl, rfl, rfl⟩
  kd := (show ∃ d, Try.prog.underlying 52 = some d ∧ scD d = true from ⟨(Try.prog.underlying 52).getD .bool, by kernel_rfl, by kernel_rfl⟩)
  eq := fun es h => by cases h
@[reducible] def ty53 : TI := ⟨1, 8, [.nilFunc], .sc, none⟩
theorem ty53_ok : TIok Try.prog 53 ty53 where
  info := ⟨Try.types.getD 53 default, .nilFunc, by kernel_rfl, by kernel_rfl, by kernel_rfl, by kernel_rfl, rfl, rfl, rfl⟩
  kd := (show ∃ d, Try.prog.underlying 53 = some d ∧ scD d = true from ⟨(Try.prog.underlying 53).getD .bool, by kernel_rfl, by kernel_rfl⟩)
  eq := fun es h => by cases h
@[reducible] def ty54 : TI := ⟨1, 8, [.nilFunc], .sc, none⟩
theorem ty54_ok : TIok Try.prog 54 ty54 where
  info := ⟨Try.types.getD 54 default, .nilFunc, by kernel_rfl, by kernel_rfl, by kernel_rfl, by kernel_rfl, rfl, rfl, rfl⟩
  kd := (show ∃ d, Try.prog.underlying 54 = some d ∧ scD d = true from ⟨(Try.prog.underlying 54).getD .bool, by kernel_rfl, by kernel_rfl⟩)
  eq := fun es h => by cases h
@[reducible] def ty55 : TI := ⟨1, 8, [.nilFunc], .sc, none⟩
theorem ty55_ok : TIok Try.prog 55 ty55 where
  info := ⟨Try.types.getD 55 default, .nilFunc, by kernel_rfl, by kernel_rfl, by kernel_rfl, by kernel_rfl, rfl, rfl, rfl⟩
  kd := (show ∃ d, Try.prog.underlying 55 = some d ∧ scD d = true from ⟨(Try.prog.underlying 55).getD .bool, by kernel_rfl, by kernel_rfl⟩)
  eq := fun es h => by cases h
@[reducible] def ty57 : TI := ⟨1, 8, [.nilFunc], .sc, none⟩
theorem ty57_ok : TIok Try.prog 57 ty57 where
  info := ⟨Try.types.getD 57 default, .nilFunc, by kernel_rfl, by kernel_rfl, by kernel_rfl, by kernel_rfl, rfl, rfl, rfl⟩
  kd := (show ∃ d, Try.prog.underlying 57 = some d ∧ scD d = true from ⟨(Try.prog.underlying 57).getD .bool, by kernel_rfl, by kernel_rfl⟩)
  eq := fun es h => by cases h
@[reducible] def ty58 : TI := ⟨1, 24, [.slice none 0 0], .sl 23, none⟩
theorem ty58_ok : TIok Try.prog 58 ty58 where
  info := ⟨Try.types.getD 58 default, .slice none 0 0, by kernel_rfl, by kernel_rfl, by kernel_rfl, by kernel_rfl, rfl, rfl, rfl⟩
  kd := (show Try.prog.underlying 58 = some (.slice 23) from by kernel_rfl)
  eq := fun es h => by cases h
@[reducible] def ty59 : TI := ⟨1, 24, [.slice none 0 0], .sl 33, none⟩
theorem ty59_ok : TIok Try.prog 59 ty59 where
  info := ⟨Try.types.getD 59 default, .slice none 0 0, by kernel_rfl, by kernel_rfl, by kernel_rfl, by kernel_rfl, rfl, rfl, rfl⟩
  kd := (show Try.prog.underlying 59 = some (.slice 33) from by kernel_rfl)
  eq := fun es h => by cases h
@[reducible] def ty60 : TI := ⟨1, 8, [.nilFunc], .sc, none⟩
theorem ty60_ok : TIok Try.prog 60 ty60 where
  info := ⟨Try.types.getD 60 default, .nilFunc, by kernel_rfl, by kernel_rfl, by kernel_rfl, by kernel_rfl, rfl, rfl, rfl⟩
  kd := (show ∃ d, Try.prog.underlying 60 = some d ∧ scD d = true from ⟨(Try.prog.underlying 60).getD .bool, by kernel_rfl, by kernel_rfl⟩)
  eq := fun es h => by cases h
@[reducible] def ty61 : TI := ⟨1, 8, [.nilFunc], .sc, none⟩
theorem ty61_ok : TIok Try.prog 61 ty61 where
  info := ⟨Try.types.getD 61 default, .nilFunc, by kernel_rfl, by kernel_rfl, by kernel_rfl, by kernel_rfl, rfl, rfl, rfl⟩
  kd := (show ∃ d, Try.prog.underlying 61 = some d ∧ scD d = true from ⟨(Try.prog.underlying 61).getD .bool, by kernel_rfl, by kernel_rfl⟩)
  eq := fun es h => by cases h
@[reducible] def ty62 : TI := ⟨1, 24, [.slice none 0 0], .sl 3, none⟩
theorem ty62_ok : TIok Try.prog 62 ty62 where
  info := ⟨Try.types.getD 62 default, .slice none 0 0, by kernel_rfl, by kernel_rfl, by kernel_rfl, by kernel_rfl, rfl, rfl, rfl⟩
  kd := (show Try.prog.underlying 62 = some (.slice 3) from by kernel_rfl)
  eq := fun es h => by cases h
@[reducible] def ty63 : TI := ⟨1, 8, [.nilFunc], .sc, none⟩
theorem ty63_ok : TIok Try.prog 63 ty63 where
  info := ⟨Try.types.getD 63 default, .nilFunc, by kernel_rfl, by kernel_rfl, by kernel_rfl, by kernel_rfl, rfl, rfl, rfl⟩
  kd := (show ∃ d, Try.prog.underlying 63 = some d ∧ scD d = true from ⟨(Try.prog.underlying 63).getD .bool, by kernel_rfl, by kernel_rfl⟩)
  eq := fun es h => by cases h
@[reducible] def ty64 : TI := ⟨1, 8, [.nilFunc], .sc, none⟩
theorem ty64_ok : TIok Try.prog 64 ty64 where
  info := ⟨Try.types.getD 64 default, .nilFunc, by kernel_rfl, by kernel_rfl, by kernel_rfl, by kernel_rfl, rfl, rfl, rfl⟩
  kd := (show ∃ d, Try.prog.underlying 64 = some d ∧ scD d = true from ⟨(Try.prog.underlying 64).getD .bool, by kernel_rfl, by kernel_rfl⟩)
  eq := fun es h => by cases h
@[reducible] def ty65 : TI := ⟨1, 8, [.nilFunc], .sc, none⟩
theorem ty65_ok : TIok Try.prog 65 ty65 where
  info := ⟨Try.types.getD 65 default, .nilFunc, by kernel_rfl, by kernel_rfl, by kernel_rfl, by kernel_rfl, rfl, rfl, rfl⟩
  kd := (show ∃ d, Try.prog.underlying 65 = some d ∧ scD d = true from ⟨(Try.prog.underlying 65).getD .bool, by kernel_rfl, by kernel_rfl⟩)
  eq := fun es h => by cases h
@[reducible] def ty67 : TI := ⟨1, 8, [.nilFunc], .sc, none⟩
theorem ty67_ok : TIok Try.prog 67 ty67 where
  info := ⟨Try.types.getD 67 default, .nilFunc, by kernel_rfl, by kernel_rfl, by kernel_rfl, by kernel_rfl, rfl, rfl, rfl⟩
  kd := (show ∃ d, Try.prog.underlying 67 = some d ∧ scD d = true from ⟨(Try.prog.underlying 67).getD .bool, by kernel_rfl, by kernel_rfl⟩)
  eq := fun es h => by cases h
@[reducible] def ty68 : TI := ⟨1, 8, [.nilFunc], .sc, none⟩
theorem ty68_ok : TIok Try.prog 68 ty68 where
  info := ⟨Try.types.getD 68 default, .nilFunc, by kernel_rfl, by kernel_rfl, by kernel_rfl, by kernel_rfl, rfl, rfl, rfl⟩
  kd := (show ∃ d, Try.prog.underlying 68 = some d ∧ scD d = true from ⟨(Try.prog.underlying 68).getD .bool, by kernel_rfl, by kernel_rfl⟩)
  eq := fun es h => by cases h
@[reducible] def ty69 : TI := ⟨1, 8, [.nilFunc], .sc, none⟩
theorem ty69_ok : TIok Try.prog 69 ty69 where
  info := ⟨Try.types.getD 69 default, .nilFunc, by kernel_rfl, by kernel_rfl, by kernel_rfl, by kernel_rfl, rfl, rfl, rfl⟩
  kd := (show ∃ d, Try.prog.underlying 69 = some d ∧ scD d = true from ⟨(Try.prog.underlying 69).getD .bool, by kernel_rfl, by kernel_rfl⟩)
  eq := fun es h => by cases h
@[reducible] def ty70 : TI := ⟨1, 8, [.nilFunc], .sc, none⟩
theorem ty70_ok : TIok Try.prog 70 ty70 where
  info := ⟨Try.types.getD 70 default, .nilFunc, by kernel_rfl, by kernel_rfl, by kernel_rfl, by kernel_rfl, rfl, rfl, rfl⟩
  kd := (show ∃ d, Try.prog.underlying 70 = some d ∧ scD d = true from ⟨(Try.prog.underlying 70).getD .bool, by kernel_rfl, by kernel_rfl⟩)
  eq := fun es h => by cases h
@[reducible] def ty71 : TI := ⟨1, 8, [.nilFunc], .sc, none⟩
theorem ty71_ok : TIok Try.prog 71 ty71 where
  info := ⟨Try.types.getD 71 default, .nilFunc, by kernel_rfl, by kernel_rfl, by kernel_rfl, by kernel_rfl, rfl, rfl, rfl⟩
  kd := (show ∃ d, Try.prog.underlying 71 = some d ∧ scD d = true from ⟨(Try.prog.underlying 71).getD .bool, by kernel_rfl, by kernel_rfl⟩)
  eq := fun es h => by cases h
@[reducible] def ty72 : TI := ⟨1, 8, [.nilFunc], .sc, none⟩
theorem ty72_ok : TIok Try.prog 72 ty72 where
  info := ⟨Try.types.getD 72 default, .nilFunc, by kernel_rfl, by kernel_rfl, by kernel_rfl, by kernel_rfl, rfl, rfl, rfl⟩
  kd := (show ∃ d, Try.prog.underlying 72 = some d ∧ scD d = true from ⟨(Try.prog.underlying 72).getD .bool, by kernel_rfl, by kernel_rfl⟩)
  eq := fun es h => by cases h
@[reducible] def ty74 : TI := ⟨1, 8, [.nilFunc], .sc, none⟩
theorem ty74_ok : TIok Try.prog 74 ty74 where
  info := ⟨Try.types.getD 74 default, .nilFunc, by kernel_rfl, by kernel_rfl, by kernel_rfl, by kernel_rfl, rfl, rfl, rfl⟩
  kd := (show ∃ d, Try.prog.underlying 74 = some d ∧ scD d = true from ⟨(Try.prog.underlying 74).getD .bool, by kernel_rfl, by kernel_rfl⟩)
  eq := fun es h => by cases h
@[reducible] def ty76 : TI := ⟨3, 6, [.int .i16 0, .int .i16 0, .bool false], .st [(0, 40), (1, 40), (2, 4)], some [.int .i16, .int .i16, .bool]⟩
theorem ty76_eq : EqOK Try.prog ty76 76 [.int .i16, .int .i16, .bool] 2 := eq_struct (fs := Try.prog.fieldsOf 76) (by kernel_rfl) (by kernel_rfl) rfl (.of (show (Try.prog.fieldsOf 76).toList = [(Try.prog.fieldsOf 76).getD 0 default, (Try.prog.fieldsOf 76).getD 1 default, (Try.prog.fieldsOf 76).getD 2 default] by kernel_rfl) (.c (f := (Try.prog.fieldsOf 76).getD 0 default) (by kernel_rfl) (by kernel_rfl) (by kernel_rfl) ty40_ok ty40_eq rfl (.inr rfl) (.c (f := (Try.prog.fieldsOf 76).getD 1 default) (by kernel_rfl) (by kernel_rfl) (by kernel_rfl) ty40_ok ty40_eq rfl (.inr rfl) (.c (f := (Try.prog.fieldsOf 76).getD 2 default) (by kernel_rfl) (by kernel_rfl) (by kernel_rfl) ty4_ok ty4_eq rfl (.inr rfl) (.nil _)))))
theorem ty76_ok : TIok Try.prog 76 ty76 where
  info := ⟨Try.types.getD 76 default, .agg #[.int .i16 0, .int .i16 0, .bool false], by kernel_rfl, by kernel_rfl, by kernel_rfl, by kernel_rfl, rfl, rfl, rfl⟩
  kd := (show ∃ fields, Try.prog.underlying 76 = some (.struct fields) ∧ fields.toList.map (fun f => (f.offset, f.type)) = [(0, 40), (1, 40), (2, 4)] from ⟨Try.prog.fieldsOf 76, by kernel_rfl, by kernel_rfl⟩)
  eq := fun es h xs ys hx hy x y w => by
    cases h
    exact eq_of (m := 2) (by decide) rfl (by kernel_rfl) ty76_eq xs ys hx hy x y w
@[reducible] def ty78 : TI := ⟨3, 24, [.int .i64 0, .int .i64 0, .bool false], .st [(0, 3), (1, 3), (2, 4)], some [.int .i64, .int .i64, .bool]⟩
theorem ty78_eq : EqOK Try.prog ty78 78 [.int .i64, .int .i64, .bool] 2 := eq_struct (fs := Try.prog.fieldsOf 78) (by kernel_rfl) (by kernel_rfl) rfl (.of (show (Try.prog.fieldsOf 78).toList = [(Try.prog.fieldsOf 78).getD 0 default, (Try.prog.fieldsOf 78).getD 1 default, (Try.prog.fieldsOf 78).getD 2 default] by kernel_rfl) (.c (f := (Try.prog.fieldsOf 78).getD 0 default) (by kernel_rfl) (by kernel_rfl) (by kernel_rfl) ty3_ok ty3_eq rfl (.inr rfl) (.c (f := (Try.prog.fieldsOf 78).getD 1 default) (by kernel_rfl) (by kernel_rfl) (by kernel_rfl) ty3_ok ty3_eq rfl (.inr rfl) (.c (f := (Try.prog.fieldsOf 78).getD 2 default) (by kernel_rfl) (by kernel_rfl) (by kernel_rfl) ty4_ok ty4_eq rfl (.inr rfl) (.nil _)))))
theorem ty78_ok : TIok Try.prog 78 ty78 where
  info := ⟨Try.types.getD 78 default, .agg #[.int .i64 0, .int .i64 0, .bool false], by kernel_rfl, by kernel_rfl, by kernel_rfl, by kernel_rfl, rfl, rfl, rfl⟩
  kd := (show ∃ fields, Try.prog.underlying 78 = some (.struct fields) ∧ fields.toList.map (fun f => (f.offset, f.type)) = [(0, 3), (1, 3), (2, 4)] from ⟨Try.prog.fieldsOf 78, by kernel_rfl, by kernel_rfl⟩)
  eq := fun es h xs ys hx hy x y w => by
    cases h
    exact eq_of (m := 2) (by decide) rfl (by kernel_rfl) ty78_eq xs ys hx hy x y w
@[reducible] def ty80 : TI := ⟨1, 8, [.int .u64 0], .int .u64, none⟩
theorem ty80_ok : TIok Try.prog 80 ty80 where
  info := ⟨Try.types.getD 80 default, .int .u64 0, by kernel_rfl, by kernel_rfl, by kernel_rfl, by kernel_rfl, rfl, rfl, rfl⟩
  kd := (show Try.prog.underlying 80 = some (.int .u64) from by kernel_rfl)
  eq := fun es h => by cases h
theorem ty80_eq : EqOK Try.prog ty80 80 [.int .u64] 1 := eq_int (by kernel_rfl) rfl
@[reducible] def ty81 : TI := ⟨1, 8, [.nilFunc], .sc, none⟩
theorem ty81_ok : TIok Try.prog 81 ty81 where
  info := ⟨Try.types.getD 81 default, .nilFunc, by kernel_rfl, by kernel_rfl, by kernel_rfl, by kernel_rfl, rfl, rfl, rfl⟩
  kd := (show ∃ d, Try.prog.underlying 81 = some d ∧ scD d = true from ⟨(Try.prog.underlying 81).getD .bool, by kernel_rfl, by kernel_rfl⟩)
  eq := fun es h => by cases h
@[reducible] def ty82 : TI := ⟨1, 8, [.nilFunc], .sc, none⟩
theorem ty82_ok : TIok Try.prog 82 ty82 where
  info := ⟨Try.types.getD 82 default, .nilFunc, by kernel_rfl, by kernel_rfl, by kernel_rfl, by kernel_rfl, rfl, rfl, rfl⟩
  kd := (show ∃ d, Try.prog.underlying 82 = some d ∧ scD d = true from ⟨(Try.prog.underlying 82).getD .bool, by kernel_rfl, by kernel_rfl⟩)
  eq := fun es h => by cases h
@[reducible] def ty83 : TI := ⟨1, 8, [.pointer none], .pt 79, none⟩
theorem ty83_ok : TIok Try.prog 83 ty83 where
  info := ⟨Try.types.getD 83 default, .pointer none, by kernel_rfl, by kernel_rfl, by kernel_rfl, by kernel_rfl, rfl, rfl, rfl⟩
  kd := (show Try.prog.underlying 83 = some (.pointer 79) from by kernel_rfl)
  eq := fun es h => by cases h
@[reducible] def ty84 : TI := ⟨1, 8, [.nilFunc], .sc, none⟩
theorem ty84_ok : TIok Try.prog 84 ty84 where
  info := ⟨Try.types.getD 84 default, .nilFunc, by kernel_rfl, by kernel_rfl, by kernel_rfl, by kernel_rfl, rfl, rfl, rfl⟩
  kd := (show ∃ d, Try.prog.underlying 84 = some d ∧ scD d = true from ⟨(Try.prog.underlying 84).getD .bool, by kernel_rfl, by kernel_rfl⟩)
  eq := fun es h => by cases h
@[reducible] def ty85 : TI := ⟨3, 24, [.int .i64 0, .int .i64 0, .int .i64 0], .ar 3 3, none⟩
theorem ty85_ok : TIok Try.prog 85 ty85 where
  info := ⟨Try.types.getD 85 default, .agg #[.int .i64 0, .int .i64 0, .int .i64 0], by kernel_rfl, by kernel_rfl, by kernel_rfl, by kernel_rfl, rfl, rfl, rfl⟩
  kd := (show Try.prog.underlying 85 = some (.array 3 3) from by kernel_rfl)
  eq := fun es h => by cases h
@[reducible] def ty86 : TI := ⟨1, 8, [.nilFunc], .sc, none⟩
theorem ty86_ok : TIok Try.prog 86 ty86 where
  info := ⟨Try.types.getD 86 default, .nilFunc, by kernel_rfl, by kernel_rfl, by kernel_rfl, by kernel_rfl, rfl, rfl, rfl⟩
  kd := (show ∃ d, Try.prog.underlying 86 = some d ∧ scD d = true from ⟨(Try.prog.underlying 86).getD .bool, by kernel_rfl, by kernel_rfl⟩)
  eq := fun es h => by cases h
@[reducible] def ty92 : TI := ⟨1, 8, [.nilFunc], .sc, none⟩
theorem ty92_ok : TIok Try.prog 92 ty92 where
  info := ⟨Try.types.getD 92 default, .nilFunc, by kernel_rfl, by kernel_rfl, by kernel_rfl, by kernel_rfl, rfl, rfl, rfl⟩
  kd := (show ∃ d, Try.prog.underlying 92 = some d ∧ scD d = true from ⟨(Try.prog.underlying 92).getD .bool, by kernel_rfl, by kernel_rfl⟩)
  eq := fun es h => by cases h
@[reducible] def ty93 : TI := ⟨1, 4, [.int .u32 0], .int .u32, none⟩
theorem ty93_ok : TIok Try.prog 93 ty93 where
  info := ⟨Try.types.getD 93 default, .int .u32 0, by kernel_rfl, by kernel_rfl, by kernel_rfl, by kernel_rfl, rfl, rfl, rfl⟩
  kd := (show Try.prog.underlying 93 = some (.int .u32) from by kernel_rfl)
  eq := fun es h => by cases h
theorem ty93_eq : EqOK Try.prog ty93 93 [.int .u32] 1 := eq_int (by kernel_rfl) rfl
@[reducible] def ty97 : TI := ⟨1, 8, [.pointer none], .pt 5, none⟩
theorem ty97_ok : TIok Try.prog 97 ty97 where
  info := ⟨Try.types.getD 97 default, .pointer none, by kernel_rfl, by kernel_rfl, by kernel_rfl, by kernel_rfl, rfl, rfl, rfl⟩
  kd := (show Try.prog.underlying 97 = some (.pointer 5) from by kernel_rfl)
  eq := fun es h => by cases h
def tt : Nat → Option TI := SX.look [(1, ty1), (2, ty2), (3, ty3), (4, ty4), (5, ty5), (9, ty9), (12, ty12), (21, ty21), (22, ty22), (23, ty23), (24, ty24), (25, ty25), (26, ty26), (27, ty27), (28, ty28), (29, ty29), (30, ty30), (31, ty31), (32, ty32), (37, ty37), (33, ty33), (34, ty34), (35, ty35), (36, ty36), (38, ty38), (39, ty39), (40, ty40), (41, ty41), (42, ty42), (43, ty43), (44, ty44), (45, ty45), (77, ty77), (75, ty75), (46, ty46), (47, ty47), (48, ty48), (79, ty79), (73, ty73), (49, ty49), (50, ty50), (51, ty51), (52, ty52), (53, ty53), (54, ty54), (55, ty55), (57, ty57), (58, ty58), (59, ty59), (60, ty60), (61, ty61), (62, ty62), (63, ty63), (64, ty64), (65, ty65), (67, ty67), (68, ty68), (69, ty69), (70, ty70), (71, ty71), (72, ty72), (74, ty74), (76, ty76), (78, ty78), (80, ty80), (81, ty81), (82, ty82), (83, ty83), (84, ty84), (85, ty85), (86, ty86), (92, ty92), (93, ty93), (97, ty97)]
theorem tt_ok : ∀ T ti, tt T = some ti → TIok Try.prog T ti := fun T ti h => by
  have h := SX.look_mem (xs := _) h
  simp only [List.mem_cons, Prod.mk.injEq, List.not_mem_nil, or_false] at h
  rcases h with ⟨rfl, rfl⟩ | ⟨rfl, rfl⟩ | ⟨rfl, rfl⟩ | ⟨rfl, rfl⟩ | ⟨rfl, rfl⟩ | ⟨rfl, rfl⟩ | ⟨rfl, rfl⟩ | ⟨rfl, rfl⟩ | ⟨rfl, rfl⟩ | ⟨rfl, rfl⟩ | ⟨rfl, rfl⟩ | ⟨rfl, rfl⟩ | ⟨rfl, rfl⟩ | ⟨rfl, rfl⟩ | ⟨rfl, rfl⟩ | ⟨rfl, rfl⟩ | ⟨rfl, rfl⟩ | ⟨rfl, rfl⟩ | ⟨rfl, rfl⟩ | ⟨rfl, rfl⟩ | ⟨rfl, rfl⟩ | ⟨rfl, rfl⟩ | ⟨rfl, rfl⟩ | ⟨rfl, rfl⟩ | ⟨rfl, rfl⟩ | ⟨rfl, rfl⟩ | ⟨rfl, rfl⟩ | ⟨rfl, rfl⟩ | ⟨rfl, rfl⟩ | ⟨rfl, rfl⟩ | ⟨rfl, rfl⟩ | ⟨rfl, rfl⟩ | ⟨rfl, rfl⟩ | ⟨rfl, rfl⟩ | ⟨rfl, rfl⟩ | ⟨rfl, rfl⟩ | ⟨rfl, rfl⟩ | ⟨rfl, rfl⟩ | ⟨rfl, rfl⟩ | ⟨rfl, rfl⟩ | ⟨rfl, rfl⟩ | ⟨rfl, rfl⟩ | ⟨rfl, rfl⟩ | ⟨rfl, rfl⟩ | ⟨rfl, rfl⟩ | ⟨rfl, rfl⟩ | ⟨rfl, rfl⟩ | ⟨rfl, rfl⟩ | ⟨rfl, rfl⟩ | ⟨rfl, rfl⟩ | ⟨rfl, rfl⟩ | ⟨rfl, rfl⟩ | ⟨rfl, rfl⟩ | ⟨rfl, rfl⟩ | ⟨rfl, rfl⟩ | ⟨rfl, rfl⟩ | ⟨rfl, rfl⟩ | ⟨rfl, rfl⟩ | ⟨rfl, rfl⟩ | ⟨rfl, rfl⟩ | ⟨rfl, rfl⟩ | ⟨rfl, rfl⟩ | ⟨rfl, rfl⟩ | ⟨rfl, rfl⟩ | ⟨rfl, rfl⟩ | ⟨rfl, rfl⟩ | ⟨rfl, rfl⟩ | ⟨rfl, rfl⟩ | ⟨rfl, rfl⟩ | ⟨rfl, rfl⟩ | ⟨rfl, rfl⟩ | ⟨rfl, rfl⟩ | ⟨rfl, rfl⟩ | ⟨rfl, rfl⟩
  · exact ty1_ok
  · exact ty2_ok
  · exact ty3_ok
  · exact ty4_ok
  · exact ty5_ok
  · exact ty9_ok
  · exact ty12_ok
  · exact ty21_ok
  · exact ty22_ok
  · exact ty23_ok
  · exact ty24_ok
  · exact ty25_ok
  · exact ty26_ok
  · exact ty27_ok
  · exact ty28_ok
  · exact ty29_ok
  · exact ty30_ok
  · exact ty31_ok
  · exact ty32_ok
  · exact ty37_ok
  · exact ty33_ok
  · exact ty34_ok
  · exact ty35_ok
  · exact ty36_ok
  · exact ty38_ok
  · exact ty39_ok
  · exact ty40_ok
  · exact ty41_ok
  · exact ty42_ok
  · exact ty43_ok
  · exact ty44_ok
  · exact ty45_ok
  · exact ty77_ok
  · exact ty75_ok
  · exact ty46_ok
  · exact ty47_ok
  · exact ty48_ok
  · exact ty79_ok
  · exact ty73_ok
  · exact ty49_ok
  · exact ty50_ok
  · exact ty51_ok
  · exact ty52_ok
  · exact ty53_ok
  · exact ty54_ok
  · exact ty55_ok
  · exact ty57_ok
  · exact ty58_ok
  · exact ty59_ok
  · exact ty60_ok
  · exact ty61_ok
  · exact ty62_ok
  · exact ty63_ok
  · exact ty64_ok
  · exact ty65_ok
  · exact ty67_ok
  · exact ty68_ok
  · exact ty69_ok
  · exact ty70_ok
  · exact ty71_ok
  · exact ty72_ok
  · exact ty74_ok
  · exact ty76_ok
  · exact ty78_ok
  · exact ty80_ok
  · exact ty81_ok
  · exact ty82_ok
  · exact ty83_ok
  · exact ty84_ok
  · exact ty85_ok
  · exact ty86_ok
  · exact ty92_ok
  · exact ty93_ok
  · exact ty97_ok
theorem follows : Try.prog.follows .mixedOrders = true := by kernel_rfl
end Go.Proofs.Ytgbhoinfemjbiaa
