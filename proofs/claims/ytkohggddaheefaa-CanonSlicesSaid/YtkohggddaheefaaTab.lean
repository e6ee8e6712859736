/- The seat's table. -/
import Derived.Test.YtkohggddaheefaaTab1
import Derived.Test.YtkohggddaheefaaTab2
namespace Go.Proofs.YtkohggddaheefaaEv
open Go
set_option maxRecDepth 100000
def tab0 : Nat → Option CFun
  | 3 => some C3
  | 4 => some C4
  | 5 => some C5
  | 6 => some C6
  | 7 => some C7
  | 8 => some C8
  | 9 => some C9
  | 10 => some C10
  | 11 => some C11
  | 12 => some C12
  | 13 => some C13
  | 15 => some C15
  | 16 => some C16
  | 17 => some C17
  | 18 => some C18
  | 19 => some C19
  | 20 => some C20
  | 21 => some C21
  | 22 => some C22
  | 23 => some C23
  | 24 => some C24
  | 25 => some C25
  | 26 => some C26
  | 27 => some C27
  | 28 => some C28
  | 29 => some C29
  | 30 => some C30
  | 31 => some C31
  | 32 => some C32
  | 33 => some C33
  | 34 => some C34
  | 35 => some C35
  | 36 => some C36
  | 37 => some C37
  | 38 => some C38
  | 39 => some C39
  | 41 => some C41
  | 42 => some C42
  | 43 => some C43
  | 44 => some C44
  | 45 => some C45
  | 46 => some C46
  | 47 => some C47
  | 48 => some C48
  | 49 => some C49
  | 50 => some C50
  | 51 => some C51
  | 52 => some C52
  | 53 => some C53
  | 54 => some C54
  | 55 => some C55
  | 56 => some C56
  | 57 => some C57
  | 58 => some C58
  | 59 => some C59
  | 60 => some C60
  | 61 => some C61
  | 62 => some C62
  | 63 => some C63
  | 64 => some C64
  | 65 => some C65
  | 66 => some C66
  | 67 => some C67
  | 68 => some C68
  | 69 => some C69
  | 70 => some C70
  | 71 => some C71
  | 72 => some C72
  | 73 => some C73
  | 74 => some C74
  | 75 => some C75
  | 76 => some C76
  | 77 => some C77
  | 78 => some C78
  | 79 => some C79
  | 80 => some C80
  | 81 => some C81
  | 82 => some C82
  | 83 => some C83
  | 84 => some C84
  | 85 => some C85
  | 86 => some C86
  | 87 => some C87
  | 88 => some C88
  | 89 => some C89
  | 90 => some C90
  | 91 => some C91
  | 92 => some C92
  | 93 => some C93
  | 94 => some C94
  | 95 => some C95
  | 96 => some C96
  | 97 => some C97
  | 98 => some C98
  | _ => none
theorem tab3 : tab0 3 = some C3 := rfl
theorem tab4 : tab0 4 = some C4 := rfl
theorem tab5 : tab0 5 = some C5 := rfl
theorem tab6 : tab0 6 = some C6 := rfl
theorem tab7 : tab0 7 = some C7 := rfl
theorem tab8 : tab0 8 = some C8 := rfl
theorem tab9 : tab0 9 = some C9 := rfl
theorem tab10 : tab0 10 = some C10 := rfl
theorem tab11 : tab0 11 = some C11 := rfl
theorem tab12 : tab0 12 = some C12 := rfl
theorem tab13 : tab0 13 = some C13 := rfl
theorem tab15 : tab0 15 = some C15 := rfl
theorem tab16 : tab0 16 = some C16 := rfl
theorem tab17 : tab0 17 = some C17 := rfl
theorem tab18 : tab0 18 = some C18 := rfl
theorem tab19 : tab0 19 = some C19 := rfl
theorem tab20 : tab0 20 = some C20 := rfl
theorem tab21 : tab0 21 = some C21 := rfl
theorem tab22 : tab0 22 = some C22 := rfl
theorem tab23 : tab0 23 = some C23 := rfl
theorem tab24 : tab0 24 = some C24 := rfl
theorem tab25 : tab0 25 = some C25 := rfl
theorem tab26 : tab0 26 = some C26 := rfl
theorem tab27 : tab0 27 = some C27 := rfl
theorem tab28 : tab0 28 = some C28 := rfl
theorem tab29 : tab0 29 = some C29 := rfl
theorem tab30 : tab0 30 = some C30 := rfl
theorem tab31 : tab0 31 = some C31 := rfl
theorem tab32 : tab0 32 = some C32 := rfl
theorem tab33 : tab0 33 = some C33 := rfl
theorem tab34 : tab0 34 = some C34 := rfl
theorem tab35 : tab0 35 = some C35 := rfl
theorem tab36 : tab0 36 = some C36 := rfl
theorem tab37 : tab0 37 = some C37 := rfl
theorem tab38 : tab0 38 = some C38 := rfl
theorem tab39 : tab0 39 = some C39 := rfl
theorem tab41 : tab0 41 = some C41 := rfl
theorem tab42 : tab0 42 = some C42 := rfl
theorem tab43 : tab0 43 = some C43 := rfl
theorem tab44 : tab0 44 = some C44 := rfl
theorem tab45 : tab0 45 = some C45 := rfl
theorem tab46 : tab0 46 = some C46 := rfl
theorem tab47 : tab0 47 = some C47 := rfl
theorem tab48 : tab0 48 = some C48 := rfl
theorem tab49 : tab0 49 = some C49 := rfl
theorem tab50 : tab0 50 = some C50 := rfl
theorem tab51 : tab0 51 = some C51 := rfl
theorem tab52 : tab0 52 = some C52 := rfl
theorem tab53 : tab0 53 = some C53 := rfl
theorem tab54 : tab0 54 = some C54 := rfl
theorem tab55 : tab0 55 = some C55 := rfl
theorem tab56 : tab0 56 = some C56 := rfl
theorem tab57 : tab0 57 = some C57 := rfl
theorem tab58 : tab0 58 = some C58 := rfl
theorem tab59 : tab0 59 = some C59 := rfl
theorem tab60 : tab0 60 = some C60 := rfl
theorem tab61 : tab0 61 = some C61 := rfl
theorem tab62 : tab0 62 = some C62 := rfl
theorem tab63 : tab0 63 = some C63 := rfl
theorem tab64 : tab0 64 = some C64 := rfl
theorem tab65 : tab0 65 = some C65 := rfl
theorem tab66 : tab0 66 = some C66 := rfl
theorem tab67 : tab0 67 = some C67 := rfl
theorem tab68 : tab0 68 = some C68 := rfl
theorem tab69 : tab0 69 = some C69 := rfl
theorem tab70 : tab0 70 = some C70 := rfl
theorem tab71 : tab0 71 = some C71 := rfl
theorem tab72 : tab0 72 = some C72 := rfl
theorem tab73 : tab0 73 = some C73 := rfl
theorem tab74 : tab0 74 = some C74 := rfl
theorem tab75 : tab0 75 = some C75 := rfl
theorem tab76 : tab0 76 = some C76 := rfl
theorem tab77 : tab0 77 = some C77 := rfl
theorem tab78 : tab0 78 = some C78 := rfl
theorem tab79 : tab0 79 = some C79 := rfl
theorem tab80 : tab0 80 = some C80 := rfl
theorem tab81 : tab0 81 = some C81 := rfl
theorem tab82 : tab0 82 = some C82 := rfl
theorem tab83 : tab0 83 = some C83 := rfl
theorem tab84 : tab0 84 = some C84 := rfl
theorem tab85 : tab0 85 = some C85 := rfl
theorem tab86 : tab0 86 = some C86 := rfl
theorem tab87 : tab0 87 = some C87 := rfl
theorem tab88 : tab0 88 = some C88 := rfl
theorem tab89 : tab0 89 = some C89 := rfl
theorem tab90 : tab0 90 = some C90 := rfl
theorem tab91 : tab0 91 = some C91 := rfl
theorem tab92 : tab0 92 = some C92 := rfl
theorem tab93 : tab0 93 = some C93 := rfl
theorem tab94 : tab0 94 = some C94 := rfl
theorem tab95 : tab0 95 = some C95 := rfl
theorem tab96 : tab0 96 = some C96 := rfl
theorem tab97 : tab0 97 = some C97 := rfl
theorem tab98 : tab0 98 = some C98 := rfl
theorem tab_ok : TabOk Try.prog tab0 := by
  intro f F h
  unfold tab0 at h
  split at h
  · cases h; exact row3
  · cases h; exact row4
  · cases h; exact row5
  · cases h; exact row6
  · cases h; exact row7
  · cases h; exact row8
  · cases h; exact row9
  · cases h; exact row10
  · cases h; exact row11
  · cases h; exact row12
  · cases h; exact row13
  · cases h; exact row15
  · cases h; exact row16
  · cases h; exact row17
  · cases h; exact row18
  · cases h; exact row19
  · cases h; exact row20
  · cases h; exact row21
  · cases h; exact row22
  · cases h; exact row23
  · cases h; exact row24
  · cases h; exact row25
  · cases h; exact row26
  · cases h; exact row27
  · cases h; exact row28
  · cases h; exact row29
  · cases h; exact row30
  · cases h; exact row31
  · cases h; exact row32
  · cases h; exact row33
  · cases h; exact row34
  · cases h; exact row35
  · cases h; exact row36
  · cases h; exact row37
  · cases h; exact row38
  · cases h; exact row39
  · cases h; exact row41
  · cases h; exact row42
  · cases h; exact row43
  · cases h; exact row44
  · cases h; exact row45
  · cases h; exact row46
  · cases h; exact row47
  · cases h; exact row48
  · cases h; exact row49
  · cases h; exact row50
  · cases h; exact row51
  · cases h; exact row52
  · cases h; exact row53
  · cases h; exact row54
  · cases h; exact row55
  · cases h; exact row56
  · cases h; exact row57
  · cases h; exact row58
  · cases h; exact row59
  · cases h; exact row60
  · cases h; exact row61
  · cases h; exact row62
  · cases h; exact row63
  · cases h; exact row64
  · cases h; exact row65
  · cases h; exact row66
  · cases h; exact row67
  · cases h; exact row68
  · cases h; exact row69
  · cases h; exact row70
  · cases h; exact row71
  · cases h; exact row72
  · cases h; exact row73
  · cases h; exact row74
  · cases h; exact row75
  · cases h; exact row76
  · cases h; exact row77
  · cases h; exact row78
  · cases h; exact row79
  · cases h; exact row80
  · cases h; exact row81
  · cases h; exact row82
  · cases h; exact row83
  · cases h; exact row84
  · cases h; exact row85
  · cases h; exact row86
  · cases h; exact row87
  · cases h; exact row88
  · cases h; exact row89
  · cases h; exact row90
  · cases h; exact row91
  · cases h; exact row92
  · cases h; exact row93
  · cases h; exact row94
  · cases h; exact row95
  · cases h; exact row96
  · cases h; exact row97
  · cases h; exact row98
  · cases h
end Go.Proofs.YtkohggddaheefaaEv
