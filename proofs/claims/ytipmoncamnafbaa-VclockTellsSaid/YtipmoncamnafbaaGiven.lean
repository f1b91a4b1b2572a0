import Derived.Test.YtipmoncamnafbaaG5
import Derived.Test.YtipmoncamnafbaaG6
import Derived.Test.YtipmoncamnafbaaG7
import Derived.Test.YtipmoncamnafbaaG8
import Derived.Test.YtipmoncamnafbaaG9
