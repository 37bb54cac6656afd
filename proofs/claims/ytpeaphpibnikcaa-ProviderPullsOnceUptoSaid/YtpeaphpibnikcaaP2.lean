/- The provider: law 5's table. -/
import Derived.Test.YtpeaphpibnikcaaP1
import Derived.Test.YtpeaphpibnikcaaV18
